/-
  No cell of these rows narrows 'for every input' (looked for: loops, veiled, ifaces, maps, wideKeys, modest, calm, conditions, laid).
  DERIVED. THE GIVEN ROWS OF THIS SEAT. 6 by the template 'for every input the law returns true; each argument reads behind the call as it read before'; 0 by the template 'total and deterministic' (their statements: YtaooimlannbenaaTotals.lean).
  GIVEN WITH THE SEED: the statements are not yours to turn. If you find one false, say at which input.
  Laid BY PROGRAM, IN A SANDBOX (cutbox-rows.mjs): the forced cells as the released guide's own fill.sh prints them over the translation 6702a05e7583d4bc… (all of the seat's roots in one cut). By AI agents, Wed Nov 11 2026. No macro, syntax, notation, axiom, sorry.
-/
import Derived.Test.YtaooimlannbenaaChecked
import GoSem.Claim
import GoSem.ClaimJoined
import GoSem.ClaimMapViews
import Derived.JoinedTies
import Derived.KernelRfl
namespace Go.Proofs.Ytaooimlannbenaa
/- THE CELL 'sum', in the pinned program and in every row, IS THE sha256 OF THE DUMP (.gsa) THAT YtaooimlannbenaaProg.lean LOADS. Nothing in Lean hashes anything: it is a label: what it is worth is what the hold of that sum in a sandbox is worth. -/
noncomputable def Try.pinned : Pinned := { name := "ytaooimlannbenaa", sum := "6702a05e7583d4bce43dc9d4d3ea65184e0f036d7880091a0c83b413a2aaf54a", checked := Try.checked }
namespace Rows
def none {H : Type} : Left H := { results := [], args := [] }

/-- 'lockgatelaw08.ModeSafe': WHATEVER THE INPUT: true; the input reads as it did. -/
def modeSafeSpec : ChangeSpec := { name := "modeSafe", fn := fun _ => fun
  | [d1, d2] => { results := [.lit (.bool true)], args := [d1, d2] }
  | _ => none }
def modeSafeRow : OpenClaim := { program := "ytaooimlannbenaa", sum := "6702a05e7583d4bce43dc9d4d3ea65184e0f036d7880091a0c83b413a2aaf54a", func := "lockgate/lockgatelaw08.ModeSafe", spec := "modeSafe", unfollowed := true, recurses := true, apart := false }
def ModeSafeSaid : Prop := modeSafeRow.holds Try.pinned (OpenSpec.ofChange modeSafeSpec)

/-- ITS FALSE NEIGHBOUR: 'it returns false'. Refute it at one input. -/
def modeSafeWrong : ChangeSpec := { name := "modeSafe", fn := fun _ => fun
  | [d1, d2] => { results := [.lit (.bool false)], args := [d1, d2] }
  | _ => none }
def ModeSafeWrongFalsely : Prop := modeSafeRow.holds Try.pinned (OpenSpec.ofChange modeSafeWrong)

/-- 'lockgatelaw08.ModeTurned': WHATEVER THE INPUT: true; the input reads as it did. -/
def modeTurnedSpec : ChangeSpec := { name := "modeTurned", fn := fun _ => fun
  | [d1, d2] => { results := [.lit (.bool true)], args := [d1, d2] }
  | _ => none }
def modeTurnedRow : OpenClaim := { program := "ytaooimlannbenaa", sum := "6702a05e7583d4bce43dc9d4d3ea65184e0f036d7880091a0c83b413a2aaf54a", func := "lockgate/lockgatelaw08.ModeTurned", spec := "modeTurned", unfollowed := true, recurses := true, apart := false }
def ModeTurnedSaid : Prop := modeTurnedRow.holds Try.pinned (OpenSpec.ofChange modeTurnedSpec)

/-- ITS FALSE NEIGHBOUR: 'it returns false'. Refute it at one input. -/
def modeTurnedWrong : ChangeSpec := { name := "modeTurned", fn := fun _ => fun
  | [d1, d2] => { results := [.lit (.bool false)], args := [d1, d2] }
  | _ => none }
def ModeTurnedWrongFalsely : Prop := modeTurnedRow.holds Try.pinned (OpenSpec.ofChange modeTurnedWrong)

/-- 'lockgatelaw08.ModeTells': WHATEVER THE INPUT: true; the input reads as it did. -/
def modeTellsSpec : ChangeSpec := { name := "modeTells", fn := fun _ => fun
  | [d1, d2] => { results := [.lit (.bool true)], args := [d1, d2] }
  | _ => none }
def modeTellsRow : OpenClaim := { program := "ytaooimlannbenaa", sum := "6702a05e7583d4bce43dc9d4d3ea65184e0f036d7880091a0c83b413a2aaf54a", func := "lockgate/lockgatelaw08.ModeTells", spec := "modeTells", apart := false }
def ModeTellsSaid : Prop := modeTellsRow.holds Try.pinned (OpenSpec.ofChange modeTellsSpec)

/-- ITS FALSE NEIGHBOUR: 'it returns false'. Refute it at one input. -/
def modeTellsWrong : ChangeSpec := { name := "modeTells", fn := fun _ => fun
  | [d1, d2] => { results := [.lit (.bool false)], args := [d1, d2] }
  | _ => none }
def ModeTellsWrongFalsely : Prop := modeTellsRow.holds Try.pinned (OpenSpec.ofChange modeTellsWrong)

/-- 'lockgatelaw08.ModeRules': WHATEVER THE INPUT: true; the input reads as it did. -/
def modeRulesSpec : ChangeSpec := { name := "modeRules", fn := fun _ => fun
  | [d1, d2, d3] => { results := [.lit (.bool true)], args := [d1, d2, d3] }
  | _ => none }
def modeRulesRow : OpenClaim := { program := "ytaooimlannbenaa", sum := "6702a05e7583d4bce43dc9d4d3ea65184e0f036d7880091a0c83b413a2aaf54a", func := "lockgate/lockgatelaw08.ModeRules", spec := "modeRules", apart := false }
def ModeRulesSaid : Prop := modeRulesRow.holds Try.pinned (OpenSpec.ofChange modeRulesSpec)

/-- ITS FALSE NEIGHBOUR: 'it returns false'. Refute it at one input. -/
def modeRulesWrong : ChangeSpec := { name := "modeRules", fn := fun _ => fun
  | [d1, d2, d3] => { results := [.lit (.bool false)], args := [d1, d2, d3] }
  | _ => none }
def ModeRulesWrongFalsely : Prop := modeRulesRow.holds Try.pinned (OpenSpec.ofChange modeRulesWrong)

/-- 'lockgatelaw08.ModeStrong': WHATEVER THE INPUT: true; the input reads as it did. -/
def modeStrongSpec : ChangeSpec := { name := "modeStrong", fn := fun _ => fun
  | [d1, d2, d3] => { results := [.lit (.bool true)], args := [d1, d2, d3] }
  | _ => none }
def modeStrongRow : OpenClaim := { program := "ytaooimlannbenaa", sum := "6702a05e7583d4bce43dc9d4d3ea65184e0f036d7880091a0c83b413a2aaf54a", func := "lockgate/lockgatelaw08.ModeStrong", spec := "modeStrong", apart := false }
def ModeStrongSaid : Prop := modeStrongRow.holds Try.pinned (OpenSpec.ofChange modeStrongSpec)

/-- ITS FALSE NEIGHBOUR: 'it returns false'. Refute it at one input. -/
def modeStrongWrong : ChangeSpec := { name := "modeStrong", fn := fun _ => fun
  | [d1, d2, d3] => { results := [.lit (.bool false)], args := [d1, d2, d3] }
  | _ => none }
def ModeStrongWrongFalsely : Prop := modeStrongRow.holds Try.pinned (OpenSpec.ofChange modeStrongWrong)

/-- 'lockgatelaw08.ModeClaims': WHATEVER THE INPUT: true; the input reads as it did. -/
def modeClaimsSpec : ChangeSpec := { name := "modeClaims", fn := fun _ => fun
  | [d1, d2] => { results := [.lit (.bool true)], args := [d1, d2] }
  | _ => none }
def modeClaimsRow : OpenClaim := { program := "ytaooimlannbenaa", sum := "6702a05e7583d4bce43dc9d4d3ea65184e0f036d7880091a0c83b413a2aaf54a", func := "lockgate/lockgatelaw08.ModeClaims", spec := "modeClaims", unfollowed := true, recurses := true, apart := false }
def ModeClaimsSaid : Prop := modeClaimsRow.holds Try.pinned (OpenSpec.ofChange modeClaimsSpec)

/-- ITS FALSE NEIGHBOUR: 'it returns false'. Refute it at one input. -/
def modeClaimsWrong : ChangeSpec := { name := "modeClaims", fn := fun _ => fun
  | [d1, d2] => { results := [.lit (.bool false)], args := [d1, d2] }
  | _ => none }
def ModeClaimsWrongFalsely : Prop := modeClaimsRow.holds Try.pinned (OpenSpec.ofChange modeClaimsWrong)

/- THE SECOND FORM. 'bulk': how many values and letters a reading holds, each counted each time it is reached (what is shared counts as often as it is met; a slice's spare places count too). A statement '..UptoSaid' is the law's where the arguments, and the package variables that the reading takes, are together of bulk at most 1048576: NARROWER than '..Said'. Prove '..Said' where nothing that the law and all that it calls make is longer than what came in: it says more and counts as full. Else prove '..UptoSaid'. A law counts once. -/
mutual
def uptoBulk {H : Type} : DataW H → Nat
  | .lit (.string bytes) => bytes.length + 1
  | .lit _ => 1
  | .nil => 1
  | .ptr d => uptoBulk d + 1
  | .slice elems spare => uptoBulkAll elems + uptoBulkAll spare + 1
  | .agg parts => uptoBulkAll parts + 1
  | .iface _ d => uptoBulk d + 1
  | .map entries => uptoBulkEntries entries + 1
  | .held _ => 1
def uptoBulkAll {H : Type} : List (DataW H) → Nat
  | [] => 0
  | d :: r => uptoBulk d + uptoBulkAll r
def uptoBulkEntries {H : Type} : List (Lit × DataW H) → Nat
  | [] => 0
  | x :: r => uptoBulkEntry x + uptoBulkEntries r
def uptoBulkEntry {H : Type} : Lit × DataW H → Nat
  | (.string bytes, d) => bytes.length + uptoBulk d + 1
  | (_, d) => uptoBulk d + 1
 end
def uptoSmall : (H : Type) → List (DataW H) → Bool := fun _ ds => decide (uptoBulkAll ds ≤ 1048576)
def OpenSpec.upto (s : _root_.Go.ChangeSpec) : _root_.Go.OpenSpec := { _root_.Go.OpenSpec.ofChange s with cond := some uptoSmall }

/-- 'lockgatelaw08.ModeSafe', WHERE WHAT IT READS IS OF BULK AT MOST 1048576: true; the input reads as it did. -/
def modeSafeUptoRow : OpenClaim := { program := "ytaooimlannbenaa", sum := "6702a05e7583d4bce43dc9d4d3ea65184e0f036d7880091a0c83b413a2aaf54a", func := "lockgate/lockgatelaw08.ModeSafe", spec := "modeSafe", unfollowed := true, recurses := true, apart := false, narrowed := true }
def ModeSafeUptoSaid : Prop := modeSafeUptoRow.holds Try.pinned (OpenSpec.upto modeSafeSpec)

/-- 'lockgatelaw08.ModeTurned', WHERE WHAT IT READS IS OF BULK AT MOST 1048576: true; the input reads as it did. -/
def modeTurnedUptoRow : OpenClaim := { program := "ytaooimlannbenaa", sum := "6702a05e7583d4bce43dc9d4d3ea65184e0f036d7880091a0c83b413a2aaf54a", func := "lockgate/lockgatelaw08.ModeTurned", spec := "modeTurned", unfollowed := true, recurses := true, apart := false, narrowed := true }
def ModeTurnedUptoSaid : Prop := modeTurnedUptoRow.holds Try.pinned (OpenSpec.upto modeTurnedSpec)

/-- 'lockgatelaw08.ModeTells', WHERE WHAT IT READS IS OF BULK AT MOST 1048576: true; the input reads as it did. -/
def modeTellsUptoRow : OpenClaim := { program := "ytaooimlannbenaa", sum := "6702a05e7583d4bce43dc9d4d3ea65184e0f036d7880091a0c83b413a2aaf54a", func := "lockgate/lockgatelaw08.ModeTells", spec := "modeTells", apart := false, narrowed := true }
def ModeTellsUptoSaid : Prop := modeTellsUptoRow.holds Try.pinned (OpenSpec.upto modeTellsSpec)

/-- 'lockgatelaw08.ModeRules', WHERE WHAT IT READS IS OF BULK AT MOST 1048576: true; the input reads as it did. -/
def modeRulesUptoRow : OpenClaim := { program := "ytaooimlannbenaa", sum := "6702a05e7583d4bce43dc9d4d3ea65184e0f036d7880091a0c83b413a2aaf54a", func := "lockgate/lockgatelaw08.ModeRules", spec := "modeRules", apart := false, narrowed := true }
def ModeRulesUptoSaid : Prop := modeRulesUptoRow.holds Try.pinned (OpenSpec.upto modeRulesSpec)

/-- 'lockgatelaw08.ModeStrong', WHERE WHAT IT READS IS OF BULK AT MOST 1048576: true; the input reads as it did. -/
def modeStrongUptoRow : OpenClaim := { program := "ytaooimlannbenaa", sum := "6702a05e7583d4bce43dc9d4d3ea65184e0f036d7880091a0c83b413a2aaf54a", func := "lockgate/lockgatelaw08.ModeStrong", spec := "modeStrong", apart := false, narrowed := true }
def ModeStrongUptoSaid : Prop := modeStrongUptoRow.holds Try.pinned (OpenSpec.upto modeStrongSpec)

/-- 'lockgatelaw08.ModeClaims', WHERE WHAT IT READS IS OF BULK AT MOST 1048576: true; the input reads as it did. -/
def modeClaimsUptoRow : OpenClaim := { program := "ytaooimlannbenaa", sum := "6702a05e7583d4bce43dc9d4d3ea65184e0f036d7880091a0c83b413a2aaf54a", func := "lockgate/lockgatelaw08.ModeClaims", spec := "modeClaims", unfollowed := true, recurses := true, apart := false, narrowed := true }
def ModeClaimsUptoSaid : Prop := modeClaimsUptoRow.holds Try.pinned (OpenSpec.upto modeClaimsSpec)

end Rows
end Go.Proofs.Ytaooimlannbenaa
