/-
  PROVED HERE: the row's condition on the listed variable gives the table's cells; the program's own start meets it.
  Conditions: none.
-/
import Derived.Test.YtcjgefhlkjdoaaaDoorRows
import Derived.Test.YtcjgefhlkjdoaaaDoorAwake
import Derived.WalkKit
import Derived.ProofKit
import Derived.OpenShut
import Derived.ShutString
import Derived.ChangeOld
import Derived.Below
import Derived.LaidMore
import Derived.Stop.Joined
namespace Go.Proofs.YtcjgefhlkjdoaaaDoor
open Go.ChangeShapes Go.WideShapes Go.ChangeAt Go.RowKit Crc

theorem own : ownKnob Tryd.prog.godebug = none := by kernel_rfl
theorem laidOut : laidOutB Tryd.prog = true := by kernel_rfl
theorem gTable : Tryd.prog.globalNamed "lockgate/crc.table" = some 0 := by kernel_rfl
theorem tTable : (Tryd.prog.globals[0]?).map (·.type) = some 40 := by kernel_rfl
theorem c22 : Tryd.prog.cellsOf 22 = 1 := by kernel_rfl
theorem c40 : Tryd.prog.cellsOf 40 = 16 := by kernel_rfl
def theList : List (String × DataW Unit) := [("lockgate/crc.table", Rows.laid_lockgate_crc_table)]

/-- The door's own heap meets the condition. -/
theorem door_met (os : Os) (args : Array Value) : laidMetH Tryd.prog theList ((World.doorLaid Tryd.prog 14 os).forCall (fun _ _ => 0) ⟨#[], args, []⟩).memory :=
  laidMetH_of_parts3 (fuel := 8) (laidMet_of_run' 8 (by kernel_rfl) (by kernel_rfl)) (by kernel_rfl) (by kernel_rfl)

/-- What the condition gives the walks. -/
theorem tab_of_laid {W : World} (h : laidMetH Tryd.prog theList W) : Tab W := by
  rw [MakeChecks.laidMetH_plain _ _ _ (by kernel_rfl)] at h
  have hT : Lib.TabIs Tryd.prog W "lockgate/crc.table" .u32 tabL := Lib.tabIs_of_head gTable tTable Tryd.underlying40 Tryd.underlying22 c22 c40 h
  exact fun i hi => hT.cell gTable i hi

theorem num_of_wf {n : Int} (h : (Lit.int .u32 n).wf = true) : ∃ c : W, n = num c := by
  refine ⟨BitVec.ofInt 32 n, ?_⟩
  simp [Lit.wf, IntKind.min, IntKind.max, IntKind.signed, IntKind.bits] at h
  unfold num
  rw [BitVec.toNat_ofInt]
  omega
theorem num_wf (c : W) : (Lit.int .u32 (num c)).wf = true := WalkArith.wf_u32 (num_bound c)
end Go.Proofs.YtcjgefhlkjdoaaaDoor
