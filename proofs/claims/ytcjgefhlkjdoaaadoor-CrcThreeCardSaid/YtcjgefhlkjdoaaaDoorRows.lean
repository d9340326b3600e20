/-
  NARROWER THAN 'FOR EVERY INPUT', by the rows' own cells (each row's printed sentence says how): CrcSums: laid · CrcParts: laid · CrcTurned: laid · CrcSteps: laid · CrcThree: laid · CrcRows: laid · CrcRowed: laid.
  DERIVED. THE GIVEN ROWS OF THIS SEAT. 7 by the template 'for every input the law returns true; each argument reads behind the call as it read before'; 0 by the template 'total and deterministic' (their statements: YtcjgefhlkjdoaaaDoorTotals.lean).
  GIVEN WITH THE SEED: the statements are not yours to turn. If you find one false, say at which input.
  Laid BY PROGRAM, IN A SANDBOX (cutbox-rows.mjs): the forced cells as the released guide's own fill.sh prints them over the translation 5606c9be48823fad… (all of the seat's roots in one cut). By AI agents, Wed Nov 11 2026. No macro, syntax, notation, axiom, sorry.
-/
import Derived.Test.YtcjgefhlkjdoaaaDoorChecked
import GoSem.Claim
import GoSem.ClaimJoined
import GoSem.ClaimMapViews
import Derived.JoinedTies
import Derived.KernelRfl
namespace Go.Proofs.YtcjgefhlkjdoaaaDoor
/- THE CELL 'sum', in the pinned program and in every row, IS THE sha256 OF THE DUMP (.gsa) THAT YtcjgefhlkjdoaaaDoorProg.lean LOADS. Nothing in Lean hashes anything: it is a label: what it is worth is what the hold of that sum in a sandbox is worth. -/
noncomputable def Tryd.pinned : Pinned := { name := "ytcjgefhlkjdoaaadoor", sum := "5606c9be48823fadb29fc9294ff1591c068531193a0dff951ddac4ffef92ac8b", checked := Tryd.checked }
namespace Rows
def none {H : Type} : Left H := { results := [], args := [] }

/- WHAT THE LISTED PACKAGE-LEVEL VARIABLES READ AS WHEN THE CALL BEGINS. Each datum BY PROGRAM (the guide's laid-datum.mjs) off the statement by which the dump's own 'gosem.cut.vars' lays the variable. In a bare row this is a premise. The card (YtcjgefhlkjdoaaaDoorCards.lean) ties it to the program's text. -/
def laid_lockgate_crc_table {H : Type} : DataW H := .agg [.lit (.int .u32 0), .lit (.int .u32 79764919), .lit (.int .u32 159529838), .lit (.int .u32 222504665), .lit (.int .u32 319059676), .lit (.int .u32 398814059), .lit (.int .u32 445009330), .lit (.int .u32 507990021), .lit (.int .u32 638119352), .lit (.int .u32 583659535), .lit (.int .u32 797628118), .lit (.int .u32 726387553), .lit (.int .u32 890018660), .lit (.int .u32 835552979), .lit (.int .u32 1015980042), .lit (.int .u32 944750013)]

/-- 'lockgatelaw02.CrcSums': WHATEVER THE INPUT: true; the input reads as it did. -/
def crcSumsSpec : ChangeSpec := { name := "crcSums", fn := fun _ => fun
  | [d1, d2] => { results := [.lit (.bool true)], args := [d1, d2] }
  | _ => none }
def crcSumsRow : OpenClaim := { program := "ytcjgefhlkjdoaaadoor", sum := "5606c9be48823fadb29fc9294ff1591c068531193a0dff951ddac4ffef92ac8b", func := "lockgate/lockgatelaw02.CrcSums", spec := "crcSums", named := ["lockgate/crc.table"], apart := false, laid := [("lockgate/crc.table", laid_lockgate_crc_table)] }
def CrcSumsSaid : Prop := crcSumsRow.holds Tryd.pinned (OpenSpec.ofChange crcSumsSpec)

/-- ITS FALSE NEIGHBOUR: 'it returns false'. Refute it at one input. -/
def crcSumsWrong : ChangeSpec := { name := "crcSums", fn := fun _ => fun
  | [d1, d2] => { results := [.lit (.bool false)], args := [d1, d2] }
  | _ => none }
def CrcSumsWrongFalsely : Prop := crcSumsRow.holds Tryd.pinned (OpenSpec.ofChange crcSumsWrong)

/-- 'lockgatelaw02.CrcParts': WHATEVER THE INPUT: true; the input reads as it did. -/
def crcPartsSpec : ChangeSpec := { name := "crcParts", fn := fun _ => fun
  | [d1, d2] => { results := [.lit (.bool true)], args := [d1, d2] }
  | _ => none }
def crcPartsRow : OpenClaim := { program := "ytcjgefhlkjdoaaadoor", sum := "5606c9be48823fadb29fc9294ff1591c068531193a0dff951ddac4ffef92ac8b", func := "lockgate/lockgatelaw02.CrcParts", spec := "crcParts", named := ["lockgate/crc.table"], apart := false, laid := [("lockgate/crc.table", laid_lockgate_crc_table)] }
def CrcPartsSaid : Prop := crcPartsRow.holds Tryd.pinned (OpenSpec.ofChange crcPartsSpec)

/-- ITS FALSE NEIGHBOUR: 'it returns false'. Refute it at one input. -/
def crcPartsWrong : ChangeSpec := { name := "crcParts", fn := fun _ => fun
  | [d1, d2] => { results := [.lit (.bool false)], args := [d1, d2] }
  | _ => none }
def CrcPartsWrongFalsely : Prop := crcPartsRow.holds Tryd.pinned (OpenSpec.ofChange crcPartsWrong)

/-- 'lockgatelaw02.CrcTurned': WHATEVER THE INPUT: true; the input reads as it did. -/
def crcTurnedSpec : ChangeSpec := { name := "crcTurned", fn := fun _ => fun
  | [d1, d2, d3] => { results := [.lit (.bool true)], args := [d1, d2, d3] }
  | _ => none }
def crcTurnedRow : OpenClaim := { program := "ytcjgefhlkjdoaaadoor", sum := "5606c9be48823fadb29fc9294ff1591c068531193a0dff951ddac4ffef92ac8b", func := "lockgate/lockgatelaw02.CrcTurned", spec := "crcTurned", named := ["lockgate/crc.table"], apart := false, laid := [("lockgate/crc.table", laid_lockgate_crc_table)] }
def CrcTurnedSaid : Prop := crcTurnedRow.holds Tryd.pinned (OpenSpec.ofChange crcTurnedSpec)

/-- ITS FALSE NEIGHBOUR: 'it returns false'. Refute it at one input. -/
def crcTurnedWrong : ChangeSpec := { name := "crcTurned", fn := fun _ => fun
  | [d1, d2, d3] => { results := [.lit (.bool false)], args := [d1, d2, d3] }
  | _ => none }
def CrcTurnedWrongFalsely : Prop := crcTurnedRow.holds Tryd.pinned (OpenSpec.ofChange crcTurnedWrong)

/-- 'lockgatelaw02.CrcSteps': WHATEVER THE INPUT: true; the input reads as it did. -/
def crcStepsSpec : ChangeSpec := { name := "crcSteps", fn := fun _ => fun
  | [d1, d2, d3] => { results := [.lit (.bool true)], args := [d1, d2, d3] }
  | _ => none }
def crcStepsRow : OpenClaim := { program := "ytcjgefhlkjdoaaadoor", sum := "5606c9be48823fadb29fc9294ff1591c068531193a0dff951ddac4ffef92ac8b", func := "lockgate/lockgatelaw02.CrcSteps", spec := "crcSteps", named := ["lockgate/crc.table"], apart := false, laid := [("lockgate/crc.table", laid_lockgate_crc_table)] }
def CrcStepsSaid : Prop := crcStepsRow.holds Tryd.pinned (OpenSpec.ofChange crcStepsSpec)

/-- ITS FALSE NEIGHBOUR: 'it returns false'. Refute it at one input. -/
def crcStepsWrong : ChangeSpec := { name := "crcSteps", fn := fun _ => fun
  | [d1, d2, d3] => { results := [.lit (.bool false)], args := [d1, d2, d3] }
  | _ => none }
def CrcStepsWrongFalsely : Prop := crcStepsRow.holds Tryd.pinned (OpenSpec.ofChange crcStepsWrong)

/-- 'lockgatelaw02.CrcThree': WHATEVER THE INPUT: true; the input reads as it did. -/
def crcThreeSpec : ChangeSpec := { name := "crcThree", fn := fun _ => fun
  | [d1, d2, d3] => { results := [.lit (.bool true)], args := [d1, d2, d3] }
  | _ => none }
def crcThreeRow : OpenClaim := { program := "ytcjgefhlkjdoaaadoor", sum := "5606c9be48823fadb29fc9294ff1591c068531193a0dff951ddac4ffef92ac8b", func := "lockgate/lockgatelaw02.CrcThree", spec := "crcThree", named := ["lockgate/crc.table"], apart := false, laid := [("lockgate/crc.table", laid_lockgate_crc_table)] }
def CrcThreeSaid : Prop := crcThreeRow.holds Tryd.pinned (OpenSpec.ofChange crcThreeSpec)

/-- ITS FALSE NEIGHBOUR: 'it returns false'. Refute it at one input. -/
def crcThreeWrong : ChangeSpec := { name := "crcThree", fn := fun _ => fun
  | [d1, d2, d3] => { results := [.lit (.bool false)], args := [d1, d2, d3] }
  | _ => none }
def CrcThreeWrongFalsely : Prop := crcThreeRow.holds Tryd.pinned (OpenSpec.ofChange crcThreeWrong)

/-- 'lockgatelaw02.CrcRows': WHATEVER THE INPUT: true; the input reads as it did. -/
def crcRowsSpec : ChangeSpec := { name := "crcRows", fn := fun _ => fun
  | [d] => { results := [.lit (.bool true)], args := [d] }
  | _ => none }
def crcRowsRow : OpenClaim := { program := "ytcjgefhlkjdoaaadoor", sum := "5606c9be48823fadb29fc9294ff1591c068531193a0dff951ddac4ffef92ac8b", func := "lockgate/lockgatelaw02.CrcRows", spec := "crcRows", unfollowed := true, recurses := true, named := ["lockgate/crc.table"], apart := false, laid := [("lockgate/crc.table", laid_lockgate_crc_table)] }
def CrcRowsSaid : Prop := crcRowsRow.holds Tryd.pinned (OpenSpec.ofChange crcRowsSpec)

/-- ITS FALSE NEIGHBOUR: 'it returns false'. Refute it at one input. -/
def crcRowsWrong : ChangeSpec := { name := "crcRows", fn := fun _ => fun
  | [d] => { results := [.lit (.bool false)], args := [d] }
  | _ => none }
def CrcRowsWrongFalsely : Prop := crcRowsRow.holds Tryd.pinned (OpenSpec.ofChange crcRowsWrong)

/-- 'lockgatelaw02.CrcRowed': WHATEVER THE INPUT: true; the input reads as it did. -/
def crcRowedSpec : ChangeSpec := { name := "crcRowed", fn := fun _ => fun
  | [d1, d2] => { results := [.lit (.bool true)], args := [d1, d2] }
  | _ => none }
def crcRowedRow : OpenClaim := { program := "ytcjgefhlkjdoaaadoor", sum := "5606c9be48823fadb29fc9294ff1591c068531193a0dff951ddac4ffef92ac8b", func := "lockgate/lockgatelaw02.CrcRowed", spec := "crcRowed", unfollowed := true, recurses := true, named := ["lockgate/crc.table"], apart := false, laid := [("lockgate/crc.table", laid_lockgate_crc_table)] }
def CrcRowedSaid : Prop := crcRowedRow.holds Tryd.pinned (OpenSpec.ofChange crcRowedSpec)

/-- ITS FALSE NEIGHBOUR: 'it returns false'. Refute it at one input. -/
def crcRowedWrong : ChangeSpec := { name := "crcRowed", fn := fun _ => fun
  | [d1, d2] => { results := [.lit (.bool false)], args := [d1, d2] }
  | _ => none }
def CrcRowedWrongFalsely : Prop := crcRowedRow.holds Tryd.pinned (OpenSpec.ofChange crcRowedWrong)

/- THE SECOND FORM. 'bulk': how many values and letters a reading holds, each counted each time it is reached (what is shared counts as often as it is met; a slice's spare places count too). A statement '..UptoSaid' is the law's where the arguments, and the package variables that the reading takes, are together of bulk at most 1048576: NARROWER than '..Said'. Prove '..Said' where nothing that the law and all that it calls make is longer than what came in: it says more and counts as full. Else prove '..UptoSaid'. A law counts once. -/
mutual
def uptoBulk {H : Type} : DataW H → Nat
  | .lit (.string bytes) => bytes.length + 1
  | .lit _ => 1
  | .nil => 1
  | .ptr d => uptoBulk d + 1
  | .slice elems spare => uptoBulkAll elems + uptoBulkAll spare + 1
  | .agg parts => uptoBulkAll parts + 1
  | .iface _ d => uptoBulk d + 1
  | .map entries => uptoBulkEntries entries + 1
  | .held _ => 1
def uptoBulkAll {H : Type} : List (DataW H) → Nat
  | [] => 0
  | d :: r => uptoBulk d + uptoBulkAll r
def uptoBulkEntries {H : Type} : List (Lit × DataW H) → Nat
  | [] => 0
  | x :: r => uptoBulkEntry x + uptoBulkEntries r
def uptoBulkEntry {H : Type} : Lit × DataW H → Nat
  | (.string bytes, d) => bytes.length + uptoBulk d + 1
  | (_, d) => uptoBulk d + 1
 end
def uptoSmall : (H : Type) → List (DataW H) → Bool := fun _ ds => decide (uptoBulkAll ds ≤ 1048576)
def OpenSpec.upto (s : _root_.Go.ChangeSpec) : _root_.Go.OpenSpec := { _root_.Go.OpenSpec.ofChange s with cond := some uptoSmall }

/-- 'lockgatelaw02.CrcSums', WHERE WHAT IT READS IS OF BULK AT MOST 1048576: true; the input reads as it did. -/
def crcSumsUptoRow : OpenClaim := { program := "ytcjgefhlkjdoaaadoor", sum := "5606c9be48823fadb29fc9294ff1591c068531193a0dff951ddac4ffef92ac8b", func := "lockgate/lockgatelaw02.CrcSums", spec := "crcSums", named := ["lockgate/crc.table"], apart := false, laid := [("lockgate/crc.table", laid_lockgate_crc_table)], narrowed := true }
def CrcSumsUptoSaid : Prop := crcSumsUptoRow.holds Tryd.pinned (OpenSpec.upto crcSumsSpec)

/-- 'lockgatelaw02.CrcParts', WHERE WHAT IT READS IS OF BULK AT MOST 1048576: true; the input reads as it did. -/
def crcPartsUptoRow : OpenClaim := { program := "ytcjgefhlkjdoaaadoor", sum := "5606c9be48823fadb29fc9294ff1591c068531193a0dff951ddac4ffef92ac8b", func := "lockgate/lockgatelaw02.CrcParts", spec := "crcParts", named := ["lockgate/crc.table"], apart := false, laid := [("lockgate/crc.table", laid_lockgate_crc_table)], narrowed := true }
def CrcPartsUptoSaid : Prop := crcPartsUptoRow.holds Tryd.pinned (OpenSpec.upto crcPartsSpec)

/-- 'lockgatelaw02.CrcTurned', WHERE WHAT IT READS IS OF BULK AT MOST 1048576: true; the input reads as it did. -/
def crcTurnedUptoRow : OpenClaim := { program := "ytcjgefhlkjdoaaadoor", sum := "5606c9be48823fadb29fc9294ff1591c068531193a0dff951ddac4ffef92ac8b", func := "lockgate/lockgatelaw02.CrcTurned", spec := "crcTurned", named := ["lockgate/crc.table"], apart := false, laid := [("lockgate/crc.table", laid_lockgate_crc_table)], narrowed := true }
def CrcTurnedUptoSaid : Prop := crcTurnedUptoRow.holds Tryd.pinned (OpenSpec.upto crcTurnedSpec)

/-- 'lockgatelaw02.CrcSteps', WHERE WHAT IT READS IS OF BULK AT MOST 1048576: true; the input reads as it did. -/
def crcStepsUptoRow : OpenClaim := { program := "ytcjgefhlkjdoaaadoor", sum := "5606c9be48823fadb29fc9294ff1591c068531193a0dff951ddac4ffef92ac8b", func := "lockgate/lockgatelaw02.CrcSteps", spec := "crcSteps", named := ["lockgate/crc.table"], apart := false, laid := [("lockgate/crc.table", laid_lockgate_crc_table)], narrowed := true }
def CrcStepsUptoSaid : Prop := crcStepsUptoRow.holds Tryd.pinned (OpenSpec.upto crcStepsSpec)

/-- 'lockgatelaw02.CrcThree', WHERE WHAT IT READS IS OF BULK AT MOST 1048576: true; the input reads as it did. -/
def crcThreeUptoRow : OpenClaim := { program := "ytcjgefhlkjdoaaadoor", sum := "5606c9be48823fadb29fc9294ff1591c068531193a0dff951ddac4ffef92ac8b", func := "lockgate/lockgatelaw02.CrcThree", spec := "crcThree", named := ["lockgate/crc.table"], apart := false, laid := [("lockgate/crc.table", laid_lockgate_crc_table)], narrowed := true }
def CrcThreeUptoSaid : Prop := crcThreeUptoRow.holds Tryd.pinned (OpenSpec.upto crcThreeSpec)

/-- 'lockgatelaw02.CrcRows', WHERE WHAT IT READS IS OF BULK AT MOST 1048576: true; the input reads as it did. -/
def crcRowsUptoRow : OpenClaim := { program := "ytcjgefhlkjdoaaadoor", sum := "5606c9be48823fadb29fc9294ff1591c068531193a0dff951ddac4ffef92ac8b", func := "lockgate/lockgatelaw02.CrcRows", spec := "crcRows", unfollowed := true, recurses := true, named := ["lockgate/crc.table"], apart := false, laid := [("lockgate/crc.table", laid_lockgate_crc_table)], narrowed := true }
def CrcRowsUptoSaid : Prop := crcRowsUptoRow.holds Tryd.pinned (OpenSpec.upto crcRowsSpec)

/-- 'lockgatelaw02.CrcRowed', WHERE WHAT IT READS IS OF BULK AT MOST 1048576: true; the input reads as it did. -/
def crcRowedUptoRow : OpenClaim := { program := "ytcjgefhlkjdoaaadoor", sum := "5606c9be48823fadb29fc9294ff1591c068531193a0dff951ddac4ffef92ac8b", func := "lockgate/lockgatelaw02.CrcRowed", spec := "crcRowed", unfollowed := true, recurses := true, named := ["lockgate/crc.table"], apart := false, laid := [("lockgate/crc.table", laid_lockgate_crc_table)], narrowed := true }
def CrcRowedUptoSaid : Prop := crcRowedUptoRow.holds Tryd.pinned (OpenSpec.upto crcRowedSpec)

end Rows
end Go.Proofs.YtcjgefhlkjdoaaaDoor
