/-
  No cell of these rows narrows 'for every input' (looked for: loops, veiled, ifaces, maps, wideKeys, modest, calm, conditions, laid).
  DERIVED. THE GIVEN ROWS OF THIS SEAT. 12 by the template 'for every input the law returns true; each argument reads behind the call as it read before'; 0 by the template 'total and deterministic' (their statements: YtpboblanjngeeaaTotals.lean).
  GIVEN WITH THE SEED: the statements are not yours to turn. If you find one false, say at which input.
  Laid BY PROGRAM, IN A SANDBOX (cutbox-rows.mjs): the forced cells as the released guide's own fill.sh prints them over the translation 99a7abb82ff1ce19… (all of the seat's roots in one cut). By AI agents, Wed Nov 11 2026. No macro, syntax, notation, axiom, sorry.
-/
import Derived.Test.YtpboblanjngeeaaChecked
import GoSem.Claim
import GoSem.ClaimJoined
import GoSem.ClaimMapViews
import Derived.JoinedTies
import Derived.KernelRfl
namespace Go.Proofs.Ytpboblanjngeeaa
/- THE CELL 'sum', in the pinned program and in every row, IS THE sha256 OF THE DUMP (.gsa) THAT YtpboblanjngeeaaProg.lean LOADS. Nothing in Lean hashes anything: it is a label: what it is worth is what the hold of that sum in a sandbox is worth. -/
noncomputable def Try.pinned : Pinned := { name := "ytpboblanjngeeaa", sum := "99a7abb82ff1ce19606b705f9c2ffde5d8fc52dcd38491e85201080962c9780b", checked := Try.checked }
namespace Rows
def none {H : Type} : Left H := { results := [], args := [] }

/-- 'pinballlaw26.MatrixScans': WHATEVER THE INPUT: true; the input reads as it did. -/
def matrixScansSpec : ChangeSpec := { name := "matrixScans", fn := fun _ => fun
  | [d1, d2, d3] => { results := [.lit (.bool true)], args := [d1, d2, d3] }
  | _ => none }
def matrixScansRow : OpenClaim := { program := "ytpboblanjngeeaa", sum := "99a7abb82ff1ce19606b705f9c2ffde5d8fc52dcd38491e85201080962c9780b", func := "pinball/pinballlaw26.MatrixScans", spec := "matrixScans", apart := false }
def MatrixScansSaid : Prop := matrixScansRow.holds Try.pinned (OpenSpec.ofChange matrixScansSpec)

/-- ITS FALSE NEIGHBOUR: 'it returns false'. Refute it at one input. -/
def matrixScansWrong : ChangeSpec := { name := "matrixScans", fn := fun _ => fun
  | [d1, d2, d3] => { results := [.lit (.bool false)], args := [d1, d2, d3] }
  | _ => none }
def MatrixScansWrongFalsely : Prop := matrixScansRow.holds Try.pinned (OpenSpec.ofChange matrixScansWrong)

/-- 'pinballlaw26.MatrixPaths': WHATEVER THE INPUT: true; the input reads as it did. -/
def matrixPathsSpec : ChangeSpec := { name := "matrixPaths", fn := fun _ => fun
  | [d1, d2, d3] => { results := [.lit (.bool true)], args := [d1, d2, d3] }
  | _ => none }
def matrixPathsRow : OpenClaim := { program := "ytpboblanjngeeaa", sum := "99a7abb82ff1ce19606b705f9c2ffde5d8fc52dcd38491e85201080962c9780b", func := "pinball/pinballlaw26.MatrixPaths", spec := "matrixPaths", apart := false }
def MatrixPathsSaid : Prop := matrixPathsRow.holds Try.pinned (OpenSpec.ofChange matrixPathsSpec)

/-- ITS FALSE NEIGHBOUR: 'it returns false'. Refute it at one input. -/
def matrixPathsWrong : ChangeSpec := { name := "matrixPaths", fn := fun _ => fun
  | [d1, d2, d3] => { results := [.lit (.bool false)], args := [d1, d2, d3] }
  | _ => none }
def MatrixPathsWrongFalsely : Prop := matrixPathsRow.holds Try.pinned (OpenSpec.ofChange matrixPathsWrong)

/-- 'pinballlaw26.MatrixConducts': WHATEVER THE INPUT: true; the input reads as it did. -/
def matrixConductsSpec : ChangeSpec := { name := "matrixConducts", fn := fun _ => fun
  | [d1, d2] => { results := [.lit (.bool true)], args := [d1, d2] }
  | _ => none }
def matrixConductsRow : OpenClaim := { program := "ytpboblanjngeeaa", sum := "99a7abb82ff1ce19606b705f9c2ffde5d8fc52dcd38491e85201080962c9780b", func := "pinball/pinballlaw26.MatrixConducts", spec := "matrixConducts", apart := false }
def MatrixConductsSaid : Prop := matrixConductsRow.holds Try.pinned (OpenSpec.ofChange matrixConductsSpec)

/-- ITS FALSE NEIGHBOUR: 'it returns false'. Refute it at one input. -/
def matrixConductsWrong : ChangeSpec := { name := "matrixConducts", fn := fun _ => fun
  | [d1, d2] => { results := [.lit (.bool false)], args := [d1, d2] }
  | _ => none }
def MatrixConductsWrongFalsely : Prop := matrixConductsRow.holds Try.pinned (OpenSpec.ofChange matrixConductsWrong)

/-- 'pinballlaw26.MatrixClean': WHATEVER THE INPUT: true; the input reads as it did. -/
def matrixCleanSpec : ChangeSpec := { name := "matrixClean", fn := fun _ => fun
  | [d1, d2] => { results := [.lit (.bool true)], args := [d1, d2] }
  | _ => none }
def matrixCleanRow : OpenClaim := { program := "ytpboblanjngeeaa", sum := "99a7abb82ff1ce19606b705f9c2ffde5d8fc52dcd38491e85201080962c9780b", func := "pinball/pinballlaw26.MatrixClean", spec := "matrixClean", apart := false }
def MatrixCleanSaid : Prop := matrixCleanRow.holds Try.pinned (OpenSpec.ofChange matrixCleanSpec)

/-- ITS FALSE NEIGHBOUR: 'it returns false'. Refute it at one input. -/
def matrixCleanWrong : ChangeSpec := { name := "matrixClean", fn := fun _ => fun
  | [d1, d2] => { results := [.lit (.bool false)], args := [d1, d2] }
  | _ => none }
def MatrixCleanWrongFalsely : Prop := matrixCleanRow.holds Try.pinned (OpenSpec.ofChange matrixCleanWrong)

/-- 'pinballlaw26.MatrixMonotone': WHATEVER THE INPUT: true; the input reads as it did. -/
def matrixMonotoneSpec : ChangeSpec := { name := "matrixMonotone", fn := fun _ => fun
  | [d1, d2, d3] => { results := [.lit (.bool true)], args := [d1, d2, d3] }
  | _ => none }
def matrixMonotoneRow : OpenClaim := { program := "ytpboblanjngeeaa", sum := "99a7abb82ff1ce19606b705f9c2ffde5d8fc52dcd38491e85201080962c9780b", func := "pinball/pinballlaw26.MatrixMonotone", spec := "matrixMonotone", apart := false }
def MatrixMonotoneSaid : Prop := matrixMonotoneRow.holds Try.pinned (OpenSpec.ofChange matrixMonotoneSpec)

/-- ITS FALSE NEIGHBOUR: 'it returns false'. Refute it at one input. -/
def matrixMonotoneWrong : ChangeSpec := { name := "matrixMonotone", fn := fun _ => fun
  | [d1, d2, d3] => { results := [.lit (.bool false)], args := [d1, d2, d3] }
  | _ => none }
def MatrixMonotoneWrongFalsely : Prop := matrixMonotoneRow.holds Try.pinned (OpenSpec.ofChange matrixMonotoneWrong)

/-- 'pinballlaw26.MatrixThree': WHATEVER THE INPUT: true; the input reads as it did. -/
def matrixThreeSpec : ChangeSpec := { name := "matrixThree", fn := fun _ => fun
  | [d1, d2] => { results := [.lit (.bool true)], args := [d1, d2] }
  | _ => none }
def matrixThreeRow : OpenClaim := { program := "ytpboblanjngeeaa", sum := "99a7abb82ff1ce19606b705f9c2ffde5d8fc52dcd38491e85201080962c9780b", func := "pinball/pinballlaw26.MatrixThree", spec := "matrixThree", apart := false }
def MatrixThreeSaid : Prop := matrixThreeRow.holds Try.pinned (OpenSpec.ofChange matrixThreeSpec)

/-- ITS FALSE NEIGHBOUR: 'it returns false'. Refute it at one input. -/
def matrixThreeWrong : ChangeSpec := { name := "matrixThree", fn := fun _ => fun
  | [d1, d2] => { results := [.lit (.bool false)], args := [d1, d2] }
  | _ => none }
def MatrixThreeWrongFalsely : Prop := matrixThreeRow.holds Try.pinned (OpenSpec.ofChange matrixThreeWrong)

/-- 'pinballlaw26.MatrixShared': WHATEVER THE INPUT: true; the input reads as it did. -/
def matrixSharedSpec : ChangeSpec := { name := "matrixShared", fn := fun _ => fun
  | [d1, d2] => { results := [.lit (.bool true)], args := [d1, d2] }
  | _ => none }
def matrixSharedRow : OpenClaim := { program := "ytpboblanjngeeaa", sum := "99a7abb82ff1ce19606b705f9c2ffde5d8fc52dcd38491e85201080962c9780b", func := "pinball/pinballlaw26.MatrixShared", spec := "matrixShared", apart := false }
def MatrixSharedSaid : Prop := matrixSharedRow.holds Try.pinned (OpenSpec.ofChange matrixSharedSpec)

/-- ITS FALSE NEIGHBOUR: 'it returns false'. Refute it at one input. -/
def matrixSharedWrong : ChangeSpec := { name := "matrixShared", fn := fun _ => fun
  | [d1, d2] => { results := [.lit (.bool false)], args := [d1, d2] }
  | _ => none }
def MatrixSharedWrongFalsely : Prop := matrixSharedRow.holds Try.pinned (OpenSpec.ofChange matrixSharedWrong)

/-- 'pinballlaw26.MatrixTurns': WHATEVER THE INPUT: true; the input reads as it did. -/
def matrixTurnsSpec : ChangeSpec := { name := "matrixTurns", fn := fun _ => fun
  | [d1, d2, d3] => { results := [.lit (.bool true)], args := [d1, d2, d3] }
  | _ => none }
def matrixTurnsRow : OpenClaim := { program := "ytpboblanjngeeaa", sum := "99a7abb82ff1ce19606b705f9c2ffde5d8fc52dcd38491e85201080962c9780b", func := "pinball/pinballlaw26.MatrixTurns", spec := "matrixTurns", apart := false }
def MatrixTurnsSaid : Prop := matrixTurnsRow.holds Try.pinned (OpenSpec.ofChange matrixTurnsSpec)

/-- ITS FALSE NEIGHBOUR: 'it returns false'. Refute it at one input. -/
def matrixTurnsWrong : ChangeSpec := { name := "matrixTurns", fn := fun _ => fun
  | [d1, d2, d3] => { results := [.lit (.bool false)], args := [d1, d2, d3] }
  | _ => none }
def MatrixTurnsWrongFalsely : Prop := matrixTurnsRow.holds Try.pinned (OpenSpec.ofChange matrixTurnsWrong)

/-- 'pinballlaw26.MatrixSafe': WHATEVER THE INPUT: true; the input reads as it did. -/
def matrixSafeSpec : ChangeSpec := { name := "matrixSafe", fn := fun _ => fun
  | [d1, d2] => { results := [.lit (.bool true)], args := [d1, d2] }
  | _ => none }
def matrixSafeRow : OpenClaim := { program := "ytpboblanjngeeaa", sum := "99a7abb82ff1ce19606b705f9c2ffde5d8fc52dcd38491e85201080962c9780b", func := "pinball/pinballlaw26.MatrixSafe", spec := "matrixSafe", apart := false }
def MatrixSafeSaid : Prop := matrixSafeRow.holds Try.pinned (OpenSpec.ofChange matrixSafeSpec)

/-- ITS FALSE NEIGHBOUR: 'it returns false'. Refute it at one input. -/
def matrixSafeWrong : ChangeSpec := { name := "matrixSafe", fn := fun _ => fun
  | [d1, d2] => { results := [.lit (.bool false)], args := [d1, d2] }
  | _ => none }
def MatrixSafeWrongFalsely : Prop := matrixSafeRow.holds Try.pinned (OpenSpec.ofChange matrixSafeWrong)

/-- 'pinballlaw26.MatrixSuspects': WHATEVER THE INPUT: true; the input reads as it did. -/
def matrixSuspectsSpec : ChangeSpec := { name := "matrixSuspects", fn := fun _ => fun
  | [d] => { results := [.lit (.bool true)], args := [d] }
  | _ => none }
def matrixSuspectsRow : OpenClaim := { program := "ytpboblanjngeeaa", sum := "99a7abb82ff1ce19606b705f9c2ffde5d8fc52dcd38491e85201080962c9780b", func := "pinball/pinballlaw26.MatrixSuspects", spec := "matrixSuspects", apart := false }
def MatrixSuspectsSaid : Prop := matrixSuspectsRow.holds Try.pinned (OpenSpec.ofChange matrixSuspectsSpec)

/-- ITS FALSE NEIGHBOUR: 'it returns false'. Refute it at one input. -/
def matrixSuspectsWrong : ChangeSpec := { name := "matrixSuspects", fn := fun _ => fun
  | [d] => { results := [.lit (.bool false)], args := [d] }
  | _ => none }
def MatrixSuspectsWrongFalsely : Prop := matrixSuspectsRow.holds Try.pinned (OpenSpec.ofChange matrixSuspectsWrong)

/-- 'pinballlaw26.MatrixDiagnoses': WHATEVER THE INPUT: true; the input reads as it did. -/
def matrixDiagnosesSpec : ChangeSpec := { name := "matrixDiagnoses", fn := fun _ => fun
  | [d1, d2] => { results := [.lit (.bool true)], args := [d1, d2] }
  | _ => none }
def matrixDiagnosesRow : OpenClaim := { program := "ytpboblanjngeeaa", sum := "99a7abb82ff1ce19606b705f9c2ffde5d8fc52dcd38491e85201080962c9780b", func := "pinball/pinballlaw26.MatrixDiagnoses", spec := "matrixDiagnoses", apart := false }
def MatrixDiagnosesSaid : Prop := matrixDiagnosesRow.holds Try.pinned (OpenSpec.ofChange matrixDiagnosesSpec)

/-- ITS FALSE NEIGHBOUR: 'it returns false'. Refute it at one input. -/
def matrixDiagnosesWrong : ChangeSpec := { name := "matrixDiagnoses", fn := fun _ => fun
  | [d1, d2] => { results := [.lit (.bool false)], args := [d1, d2] }
  | _ => none }
def MatrixDiagnosesWrongFalsely : Prop := matrixDiagnosesRow.holds Try.pinned (OpenSpec.ofChange matrixDiagnosesWrong)

/-- 'pinballlaw26.MatrixLimits': WHATEVER THE INPUT: true; the input reads as it did. -/
def matrixLimitsSpec : ChangeSpec := { name := "matrixLimits", fn := fun _ => fun
  | [d1, d2] => { results := [.lit (.bool true)], args := [d1, d2] }
  | _ => none }
def matrixLimitsRow : OpenClaim := { program := "ytpboblanjngeeaa", sum := "99a7abb82ff1ce19606b705f9c2ffde5d8fc52dcd38491e85201080962c9780b", func := "pinball/pinballlaw26.MatrixLimits", spec := "matrixLimits", apart := false }
def MatrixLimitsSaid : Prop := matrixLimitsRow.holds Try.pinned (OpenSpec.ofChange matrixLimitsSpec)

/-- ITS FALSE NEIGHBOUR: 'it returns false'. Refute it at one input. -/
def matrixLimitsWrong : ChangeSpec := { name := "matrixLimits", fn := fun _ => fun
  | [d1, d2] => { results := [.lit (.bool false)], args := [d1, d2] }
  | _ => none }
def MatrixLimitsWrongFalsely : Prop := matrixLimitsRow.holds Try.pinned (OpenSpec.ofChange matrixLimitsWrong)

/- THE SECOND FORM. 'bulk': how many values and letters a reading holds, each counted each time it is reached (what is shared counts as often as it is met; a slice's spare places count too). A statement '..UptoSaid' is the law's where the arguments, and the package variables that the reading takes, are together of bulk at most 1048576: NARROWER than '..Said'. Prove '..Said' where nothing that the law and all that it calls make is longer than what came in: it says more and counts as full. Else prove '..UptoSaid'. A law counts once. -/
mutual
def uptoBulk {H : Type} : DataW H → Nat
  | .lit (.string bytes) => bytes.length + 1
  | .lit _ => 1
  | .nil => 1
  | .ptr d => uptoBulk d + 1
  | .slice elems spare => uptoBulkAll elems + uptoBulkAll spare + 1
  | .agg parts => uptoBulkAll parts + 1
  | .iface _ d => uptoBulk d + 1
  | .map entries => uptoBulkEntries entries + 1
  | .held _ => 1
def uptoBulkAll {H : Type} : List (DataW H) → Nat
  | [] => 0
  | d :: r => uptoBulk d + uptoBulkAll r
def uptoBulkEntries {H : Type} : List (Lit × DataW H) → Nat
  | [] => 0
  | x :: r => uptoBulkEntry x + uptoBulkEntries r
def uptoBulkEntry {H : Type} : Lit × DataW H → Nat
  | (.string bytes, d) => bytes.length + uptoBulk d + 1
  | (_, d) => uptoBulk d + 1
 end
def uptoSmall : (H : Type) → List (DataW H) → Bool := fun _ ds => decide (uptoBulkAll ds ≤ 1048576)
def OpenSpec.upto (s : _root_.Go.ChangeSpec) : _root_.Go.OpenSpec := { _root_.Go.OpenSpec.ofChange s with cond := some uptoSmall }

/-- 'pinballlaw26.MatrixScans', WHERE WHAT IT READS IS OF BULK AT MOST 1048576: true; the input reads as it did. -/
def matrixScansUptoRow : OpenClaim := { program := "ytpboblanjngeeaa", sum := "99a7abb82ff1ce19606b705f9c2ffde5d8fc52dcd38491e85201080962c9780b", func := "pinball/pinballlaw26.MatrixScans", spec := "matrixScans", apart := false, narrowed := true }
def MatrixScansUptoSaid : Prop := matrixScansUptoRow.holds Try.pinned (OpenSpec.upto matrixScansSpec)

/-- 'pinballlaw26.MatrixPaths', WHERE WHAT IT READS IS OF BULK AT MOST 1048576: true; the input reads as it did. -/
def matrixPathsUptoRow : OpenClaim := { program := "ytpboblanjngeeaa", sum := "99a7abb82ff1ce19606b705f9c2ffde5d8fc52dcd38491e85201080962c9780b", func := "pinball/pinballlaw26.MatrixPaths", spec := "matrixPaths", apart := false, narrowed := true }
def MatrixPathsUptoSaid : Prop := matrixPathsUptoRow.holds Try.pinned (OpenSpec.upto matrixPathsSpec)

/-- 'pinballlaw26.MatrixConducts', WHERE WHAT IT READS IS OF BULK AT MOST 1048576: true; the input reads as it did. -/
def matrixConductsUptoRow : OpenClaim := { program := "ytpboblanjngeeaa", sum := "99a7abb82ff1ce19606b705f9c2ffde5d8fc52dcd38491e85201080962c9780b", func := "pinball/pinballlaw26.MatrixConducts", spec := "matrixConducts", apart := false, narrowed := true }
def MatrixConductsUptoSaid : Prop := matrixConductsUptoRow.holds Try.pinned (OpenSpec.upto matrixConductsSpec)

/-- 'pinballlaw26.MatrixClean', WHERE WHAT IT READS IS OF BULK AT MOST 1048576: true; the input reads as it did. -/
def matrixCleanUptoRow : OpenClaim := { program := "ytpboblanjngeeaa", sum := "99a7abb82ff1ce19606b705f9c2ffde5d8fc52dcd38491e85201080962c9780b", func := "pinball/pinballlaw26.MatrixClean", spec := "matrixClean", apart := false, narrowed := true }
def MatrixCleanUptoSaid : Prop := matrixCleanUptoRow.holds Try.pinned (OpenSpec.upto matrixCleanSpec)

/-- 'pinballlaw26.MatrixMonotone', WHERE WHAT IT READS IS OF BULK AT MOST 1048576: true; the input reads as it did. -/
def matrixMonotoneUptoRow : OpenClaim := { program := "ytpboblanjngeeaa", sum := "99a7abb82ff1ce19606b705f9c2ffde5d8fc52dcd38491e85201080962c9780b", func := "pinball/pinballlaw26.MatrixMonotone", spec := "matrixMonotone", apart := false, narrowed := true }
def MatrixMonotoneUptoSaid : Prop := matrixMonotoneUptoRow.holds Try.pinned (OpenSpec.upto matrixMonotoneSpec)

/-- 'pinballlaw26.MatrixThree', WHERE WHAT IT READS IS OF BULK AT MOST 1048576: true; the input reads as it did. -/
def matrixThreeUptoRow : OpenClaim := { program := "ytpboblanjngeeaa", sum := "99a7abb82ff1ce19606b705f9c2ffde5d8fc52dcd38491e85201080962c9780b", func := "pinball/pinballlaw26.MatrixThree", spec := "matrixThree", apart := false, narrowed := true }
def MatrixThreeUptoSaid : Prop := matrixThreeUptoRow.holds Try.pinned (OpenSpec.upto matrixThreeSpec)

/-- 'pinballlaw26.MatrixShared', WHERE WHAT IT READS IS OF BULK AT MOST 1048576: true; the input reads as it did. -/
def matrixSharedUptoRow : OpenClaim := { program := "ytpboblanjngeeaa", sum := "99a7abb82ff1ce19606b705f9c2ffde5d8fc52dcd38491e85201080962c9780b", func := "pinball/pinballlaw26.MatrixShared", spec := "matrixShared", apart := false, narrowed := true }
def MatrixSharedUptoSaid : Prop := matrixSharedUptoRow.holds Try.pinned (OpenSpec.upto matrixSharedSpec)

/-- 'pinballlaw26.MatrixTurns', WHERE WHAT IT READS IS OF BULK AT MOST 1048576: true; the input reads as it did. -/
def matrixTurnsUptoRow : OpenClaim := { program := "ytpboblanjngeeaa", sum := "99a7abb82ff1ce19606b705f9c2ffde5d8fc52dcd38491e85201080962c9780b", func := "pinball/pinballlaw26.MatrixTurns", spec := "matrixTurns", apart := false, narrowed := true }
def MatrixTurnsUptoSaid : Prop := matrixTurnsUptoRow.holds Try.pinned (OpenSpec.upto matrixTurnsSpec)

/-- 'pinballlaw26.MatrixSafe', WHERE WHAT IT READS IS OF BULK AT MOST 1048576: true; the input reads as it did. -/
def matrixSafeUptoRow : OpenClaim := { program := "ytpboblanjngeeaa", sum := "99a7abb82ff1ce19606b705f9c2ffde5d8fc52dcd38491e85201080962c9780b", func := "pinball/pinballlaw26.MatrixSafe", spec := "matrixSafe", apart := false, narrowed := true }
def MatrixSafeUptoSaid : Prop := matrixSafeUptoRow.holds Try.pinned (OpenSpec.upto matrixSafeSpec)

/-- 'pinballlaw26.MatrixSuspects', WHERE WHAT IT READS IS OF BULK AT MOST 1048576: true; the input reads as it did. -/
def matrixSuspectsUptoRow : OpenClaim := { program := "ytpboblanjngeeaa", sum := "99a7abb82ff1ce19606b705f9c2ffde5d8fc52dcd38491e85201080962c9780b", func := "pinball/pinballlaw26.MatrixSuspects", spec := "matrixSuspects", apart := false, narrowed := true }
def MatrixSuspectsUptoSaid : Prop := matrixSuspectsUptoRow.holds Try.pinned (OpenSpec.upto matrixSuspectsSpec)

/-- 'pinballlaw26.MatrixDiagnoses', WHERE WHAT IT READS IS OF BULK AT MOST 1048576: true; the input reads as it did. -/
def matrixDiagnosesUptoRow : OpenClaim := { program := "ytpboblanjngeeaa", sum := "99a7abb82ff1ce19606b705f9c2ffde5d8fc52dcd38491e85201080962c9780b", func := "pinball/pinballlaw26.MatrixDiagnoses", spec := "matrixDiagnoses", apart := false, narrowed := true }
def MatrixDiagnosesUptoSaid : Prop := matrixDiagnosesUptoRow.holds Try.pinned (OpenSpec.upto matrixDiagnosesSpec)

/-- 'pinballlaw26.MatrixLimits', WHERE WHAT IT READS IS OF BULK AT MOST 1048576: true; the input reads as it did. -/
def matrixLimitsUptoRow : OpenClaim := { program := "ytpboblanjngeeaa", sum := "99a7abb82ff1ce19606b705f9c2ffde5d8fc52dcd38491e85201080962c9780b", func := "pinball/pinballlaw26.MatrixLimits", spec := "matrixLimits", apart := false, narrowed := true }
def MatrixLimitsUptoSaid : Prop := matrixLimitsUptoRow.holds Try.pinned (OpenSpec.upto matrixLimitsSpec)

end Rows
end Go.Proofs.Ytpboblanjngeeaa
