/-
  PROVED HERE: the row's condition on the listed variable gives the table's cells; the program's own start meets it.
  Conditions: none.
-/
import Derived.Test.YtcjgefhlkjdoaaaDoorRows
import Derived.Test.YtcjgefhlkjdoaaaDoorFew
import Derived.SliceStrings
import Derived.WalkKit
import Derived.ProofKit
import Derived.OpenShut
import Derived.ShutString
import Derived.ChangeOld
import Derived.Below
import Derived.LaidMore
import Derived.Stop.Joined
namespace Go.Proofs.YtcjgefhlkjdoaaaDoor
open Go.ChangeShapes Go.WideShapes Go.ChangeAt Go.RowKit Crc

theorem own : ownKnob Tryd.prog.godebug = none := by kernel_rfl
theorem laidOut : laidOutB Tryd.prog = true := by kernel_rfl
theorem gTable : Tryd.prog.globalNamed "lockgate/crc.table" = some 0 := by kernel_rfl
theorem tTable : (Tryd.prog.globals[0]?).map (·.type) = some 40 := by kernel_rfl
theorem c22 : Tryd.prog.cellsOf 22 = 1 := by kernel_rfl
theorem c40 : Tryd.prog.cellsOf 40 = 16 := by kernel_rfl
def theList : List (String × DataW Unit) := [("lockgate/crc.table", Rows.laid_lockgate_crc_table)]

/-- The door's own heap meets the condition. -/
theorem door_met (os : Os) (args : Array Value) : laidMetH Tryd.prog theList ((World.doorLaid Tryd.prog 14 os).forCall (fun _ _ => 0) ⟨#[], args, []⟩).memory :=
  laidMetH_of_parts3 (fuel := 8) (laidMet_of_run' 8 (by kernel_rfl) (by kernel_rfl)) (by kernel_rfl) (by kernel_rfl)

/-- What the condition gives the walks. -/
theorem tab_of_laid {W : World} (h : laidMetH Tryd.prog theList W) : Tab W := by
  rw [MakeChecks.laidMetH_plain _ _ _ (by kernel_rfl)] at h
  have hT : Lib.TabIs Tryd.prog W "lockgate/crc.table" .u32 tabL := Lib.tabIs_of_head gTable tTable Tryd.underlying40 Tryd.underlying22 c22 c40 h
  exact fun i hi => hT.cell gTable i hi

theorem num_of_wf {n : Int} (h : (Lit.int .u32 n).wf = true) : ∃ c : W, n = num c := by
  refine ⟨BitVec.ofInt 32 n, ?_⟩
  simp [Lit.wf, IntKind.min, IntKind.max, IntKind.signed, IntKind.bits] at h
  unfold num
  rw [BitVec.toNat_ofInt]
  omega
theorem num_wf (c : W) : (Lit.int .u32 (num c)).wf = true := WalkArith.wf_u32 (num_bound c)
theorem c9 : Tryd.prog.cellsOf 9 = 1 := by kernel_rfl
/-- A slice of strings that came in, opened. -/
theorem strs_of {H : Type} {enc : TypeId × Value → H} {W : World} {a : Option Addr} {len cap : Nat} {d : DataW H} {p : List MemPlace}
    (h : DataW.Trod enc Tryd.prog W 0 (fun _ => true) true 29 (.slice a len cap) d p) : ∃ ss, IsStrs W a len ss := by
  obtain ⟨fuel, hf⟩ := h
  rcases open_strings Tryd.underlying29 Tryd.underlying9 c9 hf with ⟨hcs, _⟩ | ⟨x, l, c, ss, hcs, _, hl, hm, hz, _, hcell, hsz⟩
  · simp [Value.cells] at hcs
    exact ⟨[], .inl ⟨hcs.2.1, rfl⟩⟩
  · simp [Value.cells] at hcs
    obtain ⟨rfl, rfl, rfl⟩ := hcs
    by_cases h0 : len = 0
    · exact ⟨[], .inl ⟨h0, rfl⟩⟩
    · have hz' : ss.length = cap := by simpa using hz
      obtain ⟨b, off, spot⟩ := x
      have hc0 := hcell 0 (by omega)
      have hspot : spot = none := by simpa [Addr.add] using World.cell?_spot hc0
      subst hspot
      have hb : b < W.heap.size := by have := World.block_lt_of_cell? W _ hc0; simpa [Addr.add] using this
      refine ⟨ss.take len, .inr ⟨b, off, rfl, by simp; omega, hb, fun i hi => ?_⟩⟩
      have hi2 : i < len := by simp at hi; omega
      have hc := hcell i (by omega)
      have e : (⟨b, off, none⟩ : Addr).add i = ⟨b, off + i, none⟩ := by unfold Addr.add; split <;> simp_all
      rw [e] at hc
      rw [hc, List.getElem_take, List.getD_eq_getElem?_getD, List.getElem?_eq_getElem (by omega)]; rfl
end Go.Proofs.YtcjgefhlkjdoaaaDoor
