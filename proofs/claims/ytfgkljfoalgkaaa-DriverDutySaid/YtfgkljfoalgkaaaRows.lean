/-
  No cell of these rows narrows 'for every input' (looked for: loops, veiled, ifaces, maps, wideKeys, modest, calm, conditions, laid).
  DERIVED. THE GIVEN ROWS OF THIS SEAT. 20 by the template 'for every input the law returns true; each argument reads behind the call as it read before'; 0 by the template 'total and deterministic' (their statements: YtfgkljfoalgkaaaTotals.lean).
  GIVEN WITH THE SEED: the statements are not yours to turn. If you find one false, say at which input.
  Laid BY PROGRAM, IN A SANDBOX (cutbox-rows.mjs): the forced cells as the released guide's own fill.sh prints them over the translation 69fcc6abd99e4c45… (all of the seat's roots in one cut). By AI agents, Wed Nov 11 2026. No macro, syntax, notation, axiom, sorry.
-/
import Derived.Test.YtfgkljfoalgkaaaChecked
import GoSem.Claim
import GoSem.ClaimJoined
import GoSem.ClaimMapViews
import Derived.JoinedTies
import Derived.KernelRfl
namespace Go.Proofs.Ytfgkljfoalgkaaa
/- THE CELL 'sum', in the pinned program and in every row, IS THE sha256 OF THE DUMP (.gsa) THAT YtfgkljfoalgkaaaProg.lean LOADS. Nothing in Lean hashes anything: it is a label: what it is worth is what the hold of that sum in a sandbox is worth. -/
noncomputable def Try.pinned : Pinned := { name := "ytfgkljfoalgkaaa", sum := "69fcc6abd99e4c45c467f62e2b902bbf7aef0ea05ccd4bdb8c36093abdd1feb8", checked := Try.checked }
namespace Rows
def none {H : Type} : Left H := { results := [], args := [] }

/-- 'pinballlaw23.DriverLimits': WHATEVER THE INPUT: true; the input reads as it did. -/
def driverLimitsSpec : ChangeSpec := { name := "driverLimits", fn := fun _ => fun
  | [d1, d2] => { results := [.lit (.bool true)], args := [d1, d2] }
  | _ => none }
def driverLimitsRow : OpenClaim := { program := "ytfgkljfoalgkaaa", sum := "69fcc6abd99e4c45c467f62e2b902bbf7aef0ea05ccd4bdb8c36093abdd1feb8", func := "pinball/pinballlaw23.DriverLimits", spec := "driverLimits", unfollowed := true, recurses := true, apart := false }
def DriverLimitsSaid : Prop := driverLimitsRow.holds Try.pinned (OpenSpec.ofChange driverLimitsSpec)

/-- ITS FALSE NEIGHBOUR: 'it returns false'. Refute it at one input. -/
def driverLimitsWrong : ChangeSpec := { name := "driverLimits", fn := fun _ => fun
  | [d1, d2] => { results := [.lit (.bool false)], args := [d1, d2] }
  | _ => none }
def DriverLimitsWrongFalsely : Prop := driverLimitsRow.holds Try.pinned (OpenSpec.ofChange driverLimitsWrong)

/-- 'pinballlaw23.DriverStates': WHATEVER THE INPUT: true; the input reads as it did. -/
def driverStatesSpec : ChangeSpec := { name := "driverStates", fn := fun _ => fun
  | [d1, d2] => { results := [.lit (.bool true)], args := [d1, d2] }
  | _ => none }
def driverStatesRow : OpenClaim := { program := "ytfgkljfoalgkaaa", sum := "69fcc6abd99e4c45c467f62e2b902bbf7aef0ea05ccd4bdb8c36093abdd1feb8", func := "pinball/pinballlaw23.DriverStates", spec := "driverStates", unfollowed := true, recurses := true, apart := false }
def DriverStatesSaid : Prop := driverStatesRow.holds Try.pinned (OpenSpec.ofChange driverStatesSpec)

/-- ITS FALSE NEIGHBOUR: 'it returns false'. Refute it at one input. -/
def driverStatesWrong : ChangeSpec := { name := "driverStates", fn := fun _ => fun
  | [d1, d2] => { results := [.lit (.bool false)], args := [d1, d2] }
  | _ => none }
def DriverStatesWrongFalsely : Prop := driverStatesRow.holds Try.pinned (OpenSpec.ofChange driverStatesWrong)

/-- 'pinballlaw23.DriverApplies': WHATEVER THE INPUT: true; the input reads as it did. -/
def driverAppliesSpec : ChangeSpec := { name := "driverApplies", fn := fun _ => fun
  | [d1, d2, d3] => { results := [.lit (.bool true)], args := [d1, d2, d3] }
  | _ => none }
def driverAppliesRow : OpenClaim := { program := "ytfgkljfoalgkaaa", sum := "69fcc6abd99e4c45c467f62e2b902bbf7aef0ea05ccd4bdb8c36093abdd1feb8", func := "pinball/pinballlaw23.DriverApplies", spec := "driverApplies", unfollowed := true, recurses := true, apart := false }
def DriverAppliesSaid : Prop := driverAppliesRow.holds Try.pinned (OpenSpec.ofChange driverAppliesSpec)

/-- ITS FALSE NEIGHBOUR: 'it returns false'. Refute it at one input. -/
def driverAppliesWrong : ChangeSpec := { name := "driverApplies", fn := fun _ => fun
  | [d1, d2, d3] => { results := [.lit (.bool false)], args := [d1, d2, d3] }
  | _ => none }
def DriverAppliesWrongFalsely : Prop := driverAppliesRow.holds Try.pinned (OpenSpec.ofChange driverAppliesWrong)

/-- 'pinballlaw23.DriverTicks': WHATEVER THE INPUT: true; the input reads as it did. -/
def driverTicksSpec : ChangeSpec := { name := "driverTicks", fn := fun _ => fun
  | [d1, d2] => { results := [.lit (.bool true)], args := [d1, d2] }
  | _ => none }
def driverTicksRow : OpenClaim := { program := "ytfgkljfoalgkaaa", sum := "69fcc6abd99e4c45c467f62e2b902bbf7aef0ea05ccd4bdb8c36093abdd1feb8", func := "pinball/pinballlaw23.DriverTicks", spec := "driverTicks", unfollowed := true, recurses := true, apart := false }
def DriverTicksSaid : Prop := driverTicksRow.holds Try.pinned (OpenSpec.ofChange driverTicksSpec)

/-- ITS FALSE NEIGHBOUR: 'it returns false'. Refute it at one input. -/
def driverTicksWrong : ChangeSpec := { name := "driverTicks", fn := fun _ => fun
  | [d1, d2] => { results := [.lit (.bool false)], args := [d1, d2] }
  | _ => none }
def DriverTicksWrongFalsely : Prop := driverTicksRow.holds Try.pinned (OpenSpec.ofChange driverTicksWrong)

/-- 'pinballlaw23.DriverRuns': WHATEVER THE INPUT: true; the input reads as it did. -/
def driverRunsSpec : ChangeSpec := { name := "driverRuns", fn := fun _ => fun
  | [d1, d2] => { results := [.lit (.bool true)], args := [d1, d2] }
  | _ => none }
def driverRunsRow : OpenClaim := { program := "ytfgkljfoalgkaaa", sum := "69fcc6abd99e4c45c467f62e2b902bbf7aef0ea05ccd4bdb8c36093abdd1feb8", func := "pinball/pinballlaw23.DriverRuns", spec := "driverRuns", unfollowed := true, recurses := true, apart := false }
def DriverRunsSaid : Prop := driverRunsRow.holds Try.pinned (OpenSpec.ofChange driverRunsSpec)

/-- ITS FALSE NEIGHBOUR: 'it returns false'. Refute it at one input. -/
def driverRunsWrong : ChangeSpec := { name := "driverRuns", fn := fun _ => fun
  | [d1, d2] => { results := [.lit (.bool false)], args := [d1, d2] }
  | _ => none }
def DriverRunsWrongFalsely : Prop := driverRunsRow.holds Try.pinned (OpenSpec.ofChange driverRunsWrong)

/-- 'pinballlaw23.DriverSplits': WHATEVER THE INPUT: true; the input reads as it did. -/
def driverSplitsSpec : ChangeSpec := { name := "driverSplits", fn := fun _ => fun
  | [d1, d2] => { results := [.lit (.bool true)], args := [d1, d2] }
  | _ => none }
def driverSplitsRow : OpenClaim := { program := "ytfgkljfoalgkaaa", sum := "69fcc6abd99e4c45c467f62e2b902bbf7aef0ea05ccd4bdb8c36093abdd1feb8", func := "pinball/pinballlaw23.DriverSplits", spec := "driverSplits", unfollowed := true, recurses := true, apart := false }
def DriverSplitsSaid : Prop := driverSplitsRow.holds Try.pinned (OpenSpec.ofChange driverSplitsSpec)

/-- ITS FALSE NEIGHBOUR: 'it returns false'. Refute it at one input. -/
def driverSplitsWrong : ChangeSpec := { name := "driverSplits", fn := fun _ => fun
  | [d1, d2] => { results := [.lit (.bool false)], args := [d1, d2] }
  | _ => none }
def DriverSplitsWrongFalsely : Prop := driverSplitsRow.holds Try.pinned (OpenSpec.ofChange driverSplitsWrong)

/-- 'pinballlaw23.DriverIndependent': WHATEVER THE INPUT: true; the input reads as it did. -/
def driverIndependentSpec : ChangeSpec := { name := "driverIndependent", fn := fun _ => fun
  | [d1, d2] => { results := [.lit (.bool true)], args := [d1, d2] }
  | _ => none }
def driverIndependentRow : OpenClaim := { program := "ytfgkljfoalgkaaa", sum := "69fcc6abd99e4c45c467f62e2b902bbf7aef0ea05ccd4bdb8c36093abdd1feb8", func := "pinball/pinballlaw23.DriverIndependent", spec := "driverIndependent", unfollowed := true, recurses := true, apart := false }
def DriverIndependentSaid : Prop := driverIndependentRow.holds Try.pinned (OpenSpec.ofChange driverIndependentSpec)

/-- ITS FALSE NEIGHBOUR: 'it returns false'. Refute it at one input. -/
def driverIndependentWrong : ChangeSpec := { name := "driverIndependent", fn := fun _ => fun
  | [d1, d2] => { results := [.lit (.bool false)], args := [d1, d2] }
  | _ => none }
def DriverIndependentWrongFalsely : Prop := driverIndependentRow.holds Try.pinned (OpenSpec.ofChange driverIndependentWrong)

/-- 'pinballlaw23.DriverPulses': WHATEVER THE INPUT: true; the input reads as it did. -/
def driverPulsesSpec : ChangeSpec := { name := "driverPulses", fn := fun _ => fun
  | [d1, d2, d3] => { results := [.lit (.bool true)], args := [d1, d2, d3] }
  | _ => none }
def driverPulsesRow : OpenClaim := { program := "ytfgkljfoalgkaaa", sum := "69fcc6abd99e4c45c467f62e2b902bbf7aef0ea05ccd4bdb8c36093abdd1feb8", func := "pinball/pinballlaw23.DriverPulses", spec := "driverPulses", unfollowed := true, recurses := true, apart := false }
def DriverPulsesSaid : Prop := driverPulsesRow.holds Try.pinned (OpenSpec.ofChange driverPulsesSpec)

/-- ITS FALSE NEIGHBOUR: 'it returns false'. Refute it at one input. -/
def driverPulsesWrong : ChangeSpec := { name := "driverPulses", fn := fun _ => fun
  | [d1, d2, d3] => { results := [.lit (.bool false)], args := [d1, d2, d3] }
  | _ => none }
def DriverPulsesWrongFalsely : Prop := driverPulsesRow.holds Try.pinned (OpenSpec.ofChange driverPulsesWrong)

/-- 'pinballlaw23.DriverDuty': WHATEVER THE INPUT: true; the input reads as it did. -/
def driverDutySpec : ChangeSpec := { name := "driverDuty", fn := fun _ => fun
  | [d1, d2, d3] => { results := [.lit (.bool true)], args := [d1, d2, d3] }
  | _ => none }
def driverDutyRow : OpenClaim := { program := "ytfgkljfoalgkaaa", sum := "69fcc6abd99e4c45c467f62e2b902bbf7aef0ea05ccd4bdb8c36093abdd1feb8", func := "pinball/pinballlaw23.DriverDuty", spec := "driverDuty", unfollowed := true, recurses := true, apart := false }
def DriverDutySaid : Prop := driverDutyRow.holds Try.pinned (OpenSpec.ofChange driverDutySpec)

/-- ITS FALSE NEIGHBOUR: 'it returns false'. Refute it at one input. -/
def driverDutyWrong : ChangeSpec := { name := "driverDuty", fn := fun _ => fun
  | [d1, d2, d3] => { results := [.lit (.bool false)], args := [d1, d2, d3] }
  | _ => none }
def DriverDutyWrongFalsely : Prop := driverDutyRow.holds Try.pinned (OpenSpec.ofChange driverDutyWrong)

/-- 'pinballlaw23.DriverRests': WHATEVER THE INPUT: true; the input reads as it did. -/
def driverRestsSpec : ChangeSpec := { name := "driverRests", fn := fun _ => fun
  | [d] => { results := [.lit (.bool true)], args := [d] }
  | _ => none }
def driverRestsRow : OpenClaim := { program := "ytfgkljfoalgkaaa", sum := "69fcc6abd99e4c45c467f62e2b902bbf7aef0ea05ccd4bdb8c36093abdd1feb8", func := "pinball/pinballlaw23.DriverRests", spec := "driverRests", unfollowed := true, recurses := true, apart := false }
def DriverRestsSaid : Prop := driverRestsRow.holds Try.pinned (OpenSpec.ofChange driverRestsSpec)

/-- ITS FALSE NEIGHBOUR: 'it returns false'. Refute it at one input. -/
def driverRestsWrong : ChangeSpec := { name := "driverRests", fn := fun _ => fun
  | [d] => { results := [.lit (.bool false)], args := [d] }
  | _ => none }
def DriverRestsWrongFalsely : Prop := driverRestsRow.holds Try.pinned (OpenSpec.ofChange driverRestsWrong)

/-- 'pinballlaw23.DriverCuts': WHATEVER THE INPUT: true; the input reads as it did. -/
def driverCutsSpec : ChangeSpec := { name := "driverCuts", fn := fun _ => fun
  | [d1, d2] => { results := [.lit (.bool true)], args := [d1, d2] }
  | _ => none }
def driverCutsRow : OpenClaim := { program := "ytfgkljfoalgkaaa", sum := "69fcc6abd99e4c45c467f62e2b902bbf7aef0ea05ccd4bdb8c36093abdd1feb8", func := "pinball/pinballlaw23.DriverCuts", spec := "driverCuts", unfollowed := true, recurses := true, apart := false }
def DriverCutsSaid : Prop := driverCutsRow.holds Try.pinned (OpenSpec.ofChange driverCutsSpec)

/-- ITS FALSE NEIGHBOUR: 'it returns false'. Refute it at one input. -/
def driverCutsWrong : ChangeSpec := { name := "driverCuts", fn := fun _ => fun
  | [d1, d2] => { results := [.lit (.bool false)], args := [d1, d2] }
  | _ => none }
def DriverCutsWrongFalsely : Prop := driverCutsRow.holds Try.pinned (OpenSpec.ofChange driverCutsWrong)

/-- 'pinballlaw24.FuseStates': WHATEVER THE INPUT: true; the input reads as it did. -/
def fuseStatesSpec : ChangeSpec := { name := "fuseStates", fn := fun _ => fun
  | [d] => { results := [.lit (.bool true)], args := [d] }
  | _ => none }
def fuseStatesRow : OpenClaim := { program := "ytfgkljfoalgkaaa", sum := "69fcc6abd99e4c45c467f62e2b902bbf7aef0ea05ccd4bdb8c36093abdd1feb8", func := "pinball/pinballlaw24.FuseStates", spec := "fuseStates", unfollowed := true, recurses := true, apart := false }
def FuseStatesSaid : Prop := fuseStatesRow.holds Try.pinned (OpenSpec.ofChange fuseStatesSpec)

/-- ITS FALSE NEIGHBOUR: 'it returns false'. Refute it at one input. -/
def fuseStatesWrong : ChangeSpec := { name := "fuseStates", fn := fun _ => fun
  | [d] => { results := [.lit (.bool false)], args := [d] }
  | _ => none }
def FuseStatesWrongFalsely : Prop := fuseStatesRow.holds Try.pinned (OpenSpec.ofChange fuseStatesWrong)

/-- 'pinballlaw24.FuseLoads': WHATEVER THE INPUT: true; the input reads as it did. -/
def fuseLoadsSpec : ChangeSpec := { name := "fuseLoads", fn := fun _ => fun
  | [d1, d2, d3] => { results := [.lit (.bool true)], args := [d1, d2, d3] }
  | _ => none }
def fuseLoadsRow : OpenClaim := { program := "ytfgkljfoalgkaaa", sum := "69fcc6abd99e4c45c467f62e2b902bbf7aef0ea05ccd4bdb8c36093abdd1feb8", func := "pinball/pinballlaw24.FuseLoads", spec := "fuseLoads", unfollowed := true, recurses := true, apart := false }
def FuseLoadsSaid : Prop := fuseLoadsRow.holds Try.pinned (OpenSpec.ofChange fuseLoadsSpec)

/-- ITS FALSE NEIGHBOUR: 'it returns false'. Refute it at one input. -/
def fuseLoadsWrong : ChangeSpec := { name := "fuseLoads", fn := fun _ => fun
  | [d1, d2, d3] => { results := [.lit (.bool false)], args := [d1, d2, d3] }
  | _ => none }
def FuseLoadsWrongFalsely : Prop := fuseLoadsRow.holds Try.pinned (OpenSpec.ofChange fuseLoadsWrong)

/-- 'pinballlaw24.FuseGuards': WHATEVER THE INPUT: true; the input reads as it did. -/
def fuseGuardsSpec : ChangeSpec := { name := "fuseGuards", fn := fun _ => fun
  | [d1, d2] => { results := [.lit (.bool true)], args := [d1, d2] }
  | _ => none }
def fuseGuardsRow : OpenClaim := { program := "ytfgkljfoalgkaaa", sum := "69fcc6abd99e4c45c467f62e2b902bbf7aef0ea05ccd4bdb8c36093abdd1feb8", func := "pinball/pinballlaw24.FuseGuards", spec := "fuseGuards", unfollowed := true, recurses := true, apart := false }
def FuseGuardsSaid : Prop := fuseGuardsRow.holds Try.pinned (OpenSpec.ofChange fuseGuardsSpec)

/-- ITS FALSE NEIGHBOUR: 'it returns false'. Refute it at one input. -/
def fuseGuardsWrong : ChangeSpec := { name := "fuseGuards", fn := fun _ => fun
  | [d1, d2] => { results := [.lit (.bool false)], args := [d1, d2] }
  | _ => none }
def FuseGuardsWrongFalsely : Prop := fuseGuardsRow.holds Try.pinned (OpenSpec.ofChange fuseGuardsWrong)

/-- 'pinballlaw24.FuseTicks': WHATEVER THE INPUT: true; the input reads as it did. -/
def fuseTicksSpec : ChangeSpec := { name := "fuseTicks", fn := fun _ => fun
  | [d1, d2] => { results := [.lit (.bool true)], args := [d1, d2] }
  | _ => none }
def fuseTicksRow : OpenClaim := { program := "ytfgkljfoalgkaaa", sum := "69fcc6abd99e4c45c467f62e2b902bbf7aef0ea05ccd4bdb8c36093abdd1feb8", func := "pinball/pinballlaw24.FuseTicks", spec := "fuseTicks", unfollowed := true, recurses := true, apart := false }
def FuseTicksSaid : Prop := fuseTicksRow.holds Try.pinned (OpenSpec.ofChange fuseTicksSpec)

/-- ITS FALSE NEIGHBOUR: 'it returns false'. Refute it at one input. -/
def fuseTicksWrong : ChangeSpec := { name := "fuseTicks", fn := fun _ => fun
  | [d1, d2] => { results := [.lit (.bool false)], args := [d1, d2] }
  | _ => none }
def FuseTicksWrongFalsely : Prop := fuseTicksRow.holds Try.pinned (OpenSpec.ofChange fuseTicksWrong)

/-- 'pinballlaw24.FuseHolds': WHATEVER THE INPUT: true; the input reads as it did. -/
def fuseHoldsSpec : ChangeSpec := { name := "fuseHolds", fn := fun _ => fun
  | [d1, d2] => { results := [.lit (.bool true)], args := [d1, d2] }
  | _ => none }
def fuseHoldsRow : OpenClaim := { program := "ytfgkljfoalgkaaa", sum := "69fcc6abd99e4c45c467f62e2b902bbf7aef0ea05ccd4bdb8c36093abdd1feb8", func := "pinball/pinballlaw24.FuseHolds", spec := "fuseHolds", unfollowed := true, recurses := true, apart := false }
def FuseHoldsSaid : Prop := fuseHoldsRow.holds Try.pinned (OpenSpec.ofChange fuseHoldsSpec)

/-- ITS FALSE NEIGHBOUR: 'it returns false'. Refute it at one input. -/
def fuseHoldsWrong : ChangeSpec := { name := "fuseHolds", fn := fun _ => fun
  | [d1, d2] => { results := [.lit (.bool false)], args := [d1, d2] }
  | _ => none }
def FuseHoldsWrongFalsely : Prop := fuseHoldsRow.holds Try.pinned (OpenSpec.ofChange fuseHoldsWrong)

/-- 'pinballlaw24.FuseBlows': WHATEVER THE INPUT: true; the input reads as it did. -/
def fuseBlowsSpec : ChangeSpec := { name := "fuseBlows", fn := fun _ => fun
  | [d1, d2, d3] => { results := [.lit (.bool true)], args := [d1, d2, d3] }
  | _ => none }
def fuseBlowsRow : OpenClaim := { program := "ytfgkljfoalgkaaa", sum := "69fcc6abd99e4c45c467f62e2b902bbf7aef0ea05ccd4bdb8c36093abdd1feb8", func := "pinball/pinballlaw24.FuseBlows", spec := "fuseBlows", unfollowed := true, recurses := true, apart := false }
def FuseBlowsSaid : Prop := fuseBlowsRow.holds Try.pinned (OpenSpec.ofChange fuseBlowsSpec)

/-- ITS FALSE NEIGHBOUR: 'it returns false'. Refute it at one input. -/
def fuseBlowsWrong : ChangeSpec := { name := "fuseBlows", fn := fun _ => fun
  | [d1, d2, d3] => { results := [.lit (.bool false)], args := [d1, d2, d3] }
  | _ => none }
def FuseBlowsWrongFalsely : Prop := fuseBlowsRow.holds Try.pinned (OpenSpec.ofChange fuseBlowsWrong)

/-- 'pinballlaw24.FuseMonotone': WHATEVER THE INPUT: true; the input reads as it did. -/
def fuseMonotoneSpec : ChangeSpec := { name := "fuseMonotone", fn := fun _ => fun
  | [d1, d2, d3] => { results := [.lit (.bool true)], args := [d1, d2, d3] }
  | _ => none }
def fuseMonotoneRow : OpenClaim := { program := "ytfgkljfoalgkaaa", sum := "69fcc6abd99e4c45c467f62e2b902bbf7aef0ea05ccd4bdb8c36093abdd1feb8", func := "pinball/pinballlaw24.FuseMonotone", spec := "fuseMonotone", unfollowed := true, recurses := true, apart := false }
def FuseMonotoneSaid : Prop := fuseMonotoneRow.holds Try.pinned (OpenSpec.ofChange fuseMonotoneSpec)

/-- ITS FALSE NEIGHBOUR: 'it returns false'. Refute it at one input. -/
def fuseMonotoneWrong : ChangeSpec := { name := "fuseMonotone", fn := fun _ => fun
  | [d1, d2, d3] => { results := [.lit (.bool false)], args := [d1, d2, d3] }
  | _ => none }
def FuseMonotoneWrongFalsely : Prop := fuseMonotoneRow.holds Try.pinned (OpenSpec.ofChange fuseMonotoneWrong)

/-- 'pinballlaw24.FuseSeparate': WHATEVER THE INPUT: true; the input reads as it did. -/
def fuseSeparateSpec : ChangeSpec := { name := "fuseSeparate", fn := fun _ => fun
  | [d1, d2, d3] => { results := [.lit (.bool true)], args := [d1, d2, d3] }
  | _ => none }
def fuseSeparateRow : OpenClaim := { program := "ytfgkljfoalgkaaa", sum := "69fcc6abd99e4c45c467f62e2b902bbf7aef0ea05ccd4bdb8c36093abdd1feb8", func := "pinball/pinballlaw24.FuseSeparate", spec := "fuseSeparate", unfollowed := true, recurses := true, apart := false }
def FuseSeparateSaid : Prop := fuseSeparateRow.holds Try.pinned (OpenSpec.ofChange fuseSeparateSpec)

/-- ITS FALSE NEIGHBOUR: 'it returns false'. Refute it at one input. -/
def fuseSeparateWrong : ChangeSpec := { name := "fuseSeparate", fn := fun _ => fun
  | [d1, d2, d3] => { results := [.lit (.bool false)], args := [d1, d2, d3] }
  | _ => none }
def FuseSeparateWrongFalsely : Prop := fuseSeparateRow.holds Try.pinned (OpenSpec.ofChange fuseSeparateWrong)

/-- 'pinballlaw24.FuseReplaces': WHATEVER THE INPUT: true; the input reads as it did. -/
def fuseReplacesSpec : ChangeSpec := { name := "fuseReplaces", fn := fun _ => fun
  | [d1, d2] => { results := [.lit (.bool true)], args := [d1, d2] }
  | _ => none }
def fuseReplacesRow : OpenClaim := { program := "ytfgkljfoalgkaaa", sum := "69fcc6abd99e4c45c467f62e2b902bbf7aef0ea05ccd4bdb8c36093abdd1feb8", func := "pinball/pinballlaw24.FuseReplaces", spec := "fuseReplaces", unfollowed := true, recurses := true, apart := false }
def FuseReplacesSaid : Prop := fuseReplacesRow.holds Try.pinned (OpenSpec.ofChange fuseReplacesSpec)

/-- ITS FALSE NEIGHBOUR: 'it returns false'. Refute it at one input. -/
def fuseReplacesWrong : ChangeSpec := { name := "fuseReplaces", fn := fun _ => fun
  | [d1, d2] => { results := [.lit (.bool false)], args := [d1, d2] }
  | _ => none }
def FuseReplacesWrongFalsely : Prop := fuseReplacesRow.holds Try.pinned (OpenSpec.ofChange fuseReplacesWrong)

/- THE SECOND FORM. 'bulk': how many values and letters a reading holds, each counted each time it is reached (what is shared counts as often as it is met; a slice's spare places count too). A statement '..UptoSaid' is the law's where the arguments, and the package variables that the reading takes, are together of bulk at most 1048576: NARROWER than '..Said'. Prove '..Said' where nothing that the law and all that it calls make is longer than what came in: it says more and counts as full. Else prove '..UptoSaid'. A law counts once. -/
mutual
def uptoBulk {H : Type} : DataW H → Nat
  | .lit (.string bytes) => bytes.length + 1
  | .lit _ => 1
  | .nil => 1
  | .ptr d => uptoBulk d + 1
  | .slice elems spare => uptoBulkAll elems + uptoBulkAll spare + 1
  | .agg parts => uptoBulkAll parts + 1
  | .iface _ d => uptoBulk d + 1
  | .map entries => uptoBulkEntries entries + 1
  | .held _ => 1
def uptoBulkAll {H : Type} : List (DataW H) → Nat
  | [] => 0
  | d :: r => uptoBulk d + uptoBulkAll r
def uptoBulkEntries {H : Type} : List (Lit × DataW H) → Nat
  | [] => 0
  | x :: r => uptoBulkEntry x + uptoBulkEntries r
def uptoBulkEntry {H : Type} : Lit × DataW H → Nat
  | (.string bytes, d) => bytes.length + uptoBulk d + 1
  | (_, d) => uptoBulk d + 1
 end
def uptoSmall : (H : Type) → List (DataW H) → Bool := fun _ ds => decide (uptoBulkAll ds ≤ 1048576)
def OpenSpec.upto (s : _root_.Go.ChangeSpec) : _root_.Go.OpenSpec := { _root_.Go.OpenSpec.ofChange s with cond := some uptoSmall }

/-- 'pinballlaw23.DriverLimits', WHERE WHAT IT READS IS OF BULK AT MOST 1048576: true; the input reads as it did. -/
def driverLimitsUptoRow : OpenClaim := { program := "ytfgkljfoalgkaaa", sum := "69fcc6abd99e4c45c467f62e2b902bbf7aef0ea05ccd4bdb8c36093abdd1feb8", func := "pinball/pinballlaw23.DriverLimits", spec := "driverLimits", unfollowed := true, recurses := true, apart := false, narrowed := true }
def DriverLimitsUptoSaid : Prop := driverLimitsUptoRow.holds Try.pinned (OpenSpec.upto driverLimitsSpec)

/-- 'pinballlaw23.DriverStates', WHERE WHAT IT READS IS OF BULK AT MOST 1048576: true; the input reads as it did. -/
def driverStatesUptoRow : OpenClaim := { program := "ytfgkljfoalgkaaa", sum := "69fcc6abd99e4c45c467f62e2b902bbf7aef0ea05ccd4bdb8c36093abdd1feb8", func := "pinball/pinballlaw23.DriverStates", spec := "driverStates", unfollowed := true, recurses := true, apart := false, narrowed := true }
def DriverStatesUptoSaid : Prop := driverStatesUptoRow.holds Try.pinned (OpenSpec.upto driverStatesSpec)

/-- 'pinballlaw23.DriverApplies', WHERE WHAT IT READS IS OF BULK AT MOST 1048576: true; the input reads as it did. -/
def driverAppliesUptoRow : OpenClaim := { program := "ytfgkljfoalgkaaa", sum := "69fcc6abd99e4c45c467f62e2b902bbf7aef0ea05ccd4bdb8c36093abdd1feb8", func := "pinball/pinballlaw23.DriverApplies", spec := "driverApplies", unfollowed := true, recurses := true, apart := false, narrowed := true }
def DriverAppliesUptoSaid : Prop := driverAppliesUptoRow.holds Try.pinned (OpenSpec.upto driverAppliesSpec)

/-- 'pinballlaw23.DriverTicks', WHERE WHAT IT READS IS OF BULK AT MOST 1048576: true; the input reads as it did. -/
def driverTicksUptoRow : OpenClaim := { program := "ytfgkljfoalgkaaa", sum := "69fcc6abd99e4c45c467f62e2b902bbf7aef0ea05ccd4bdb8c36093abdd1feb8", func := "pinball/pinballlaw23.DriverTicks", spec := "driverTicks", unfollowed := true, recurses := true, apart := false, narrowed := true }
def DriverTicksUptoSaid : Prop := driverTicksUptoRow.holds Try.pinned (OpenSpec.upto driverTicksSpec)

/-- 'pinballlaw23.DriverRuns', WHERE WHAT IT READS IS OF BULK AT MOST 1048576: true; the input reads as it did. -/
def driverRunsUptoRow : OpenClaim := { program := "ytfgkljfoalgkaaa", sum := "69fcc6abd99e4c45c467f62e2b902bbf7aef0ea05ccd4bdb8c36093abdd1feb8", func := "pinball/pinballlaw23.DriverRuns", spec := "driverRuns", unfollowed := true, recurses := true, apart := false, narrowed := true }
def DriverRunsUptoSaid : Prop := driverRunsUptoRow.holds Try.pinned (OpenSpec.upto driverRunsSpec)

/-- 'pinballlaw23.DriverSplits', WHERE WHAT IT READS IS OF BULK AT MOST 1048576: true; the input reads as it did. -/
def driverSplitsUptoRow : OpenClaim := { program := "ytfgkljfoalgkaaa", sum := "69fcc6abd99e4c45c467f62e2b902bbf7aef0ea05ccd4bdb8c36093abdd1feb8", func := "pinball/pinballlaw23.DriverSplits", spec := "driverSplits", unfollowed := true, recurses := true, apart := false, narrowed := true }
def DriverSplitsUptoSaid : Prop := driverSplitsUptoRow.holds Try.pinned (OpenSpec.upto driverSplitsSpec)

/-- 'pinballlaw23.DriverIndependent', WHERE WHAT IT READS IS OF BULK AT MOST 1048576: true; the input reads as it did. -/
def driverIndependentUptoRow : OpenClaim := { program := "ytfgkljfoalgkaaa", sum := "69fcc6abd99e4c45c467f62e2b902bbf7aef0ea05ccd4bdb8c36093abdd1feb8", func := "pinball/pinballlaw23.DriverIndependent", spec := "driverIndependent", unfollowed := true, recurses := true, apart := false, narrowed := true }
def DriverIndependentUptoSaid : Prop := driverIndependentUptoRow.holds Try.pinned (OpenSpec.upto driverIndependentSpec)

/-- 'pinballlaw23.DriverPulses', WHERE WHAT IT READS IS OF BULK AT MOST 1048576: true; the input reads as it did. -/
def driverPulsesUptoRow : OpenClaim := { program := "ytfgkljfoalgkaaa", sum := "69fcc6abd99e4c45c467f62e2b902bbf7aef0ea05ccd4bdb8c36093abdd1feb8", func := "pinball/pinballlaw23.DriverPulses", spec := "driverPulses", unfollowed := true, recurses := true, apart := false, narrowed := true }
def DriverPulsesUptoSaid : Prop := driverPulsesUptoRow.holds Try.pinned (OpenSpec.upto driverPulsesSpec)

/-- 'pinballlaw23.DriverDuty', WHERE WHAT IT READS IS OF BULK AT MOST 1048576: true; the input reads as it did. -/
def driverDutyUptoRow : OpenClaim := { program := "ytfgkljfoalgkaaa", sum := "69fcc6abd99e4c45c467f62e2b902bbf7aef0ea05ccd4bdb8c36093abdd1feb8", func := "pinball/pinballlaw23.DriverDuty", spec := "driverDuty", unfollowed := true, recurses := true, apart := false, narrowed := true }
def DriverDutyUptoSaid : Prop := driverDutyUptoRow.holds Try.pinned (OpenSpec.upto driverDutySpec)

/-- 'pinballlaw23.DriverRests', WHERE WHAT IT READS IS OF BULK AT MOST 1048576: true; the input reads as it did. -/
def driverRestsUptoRow : OpenClaim := { program := "ytfgkljfoalgkaaa", sum := "69fcc6abd99e4c45c467f62e2b902bbf7aef0ea05ccd4bdb8c36093abdd1feb8", func := "pinball/pinballlaw23.DriverRests", spec := "driverRests", unfollowed := true, recurses := true, apart := false, narrowed := true }
def DriverRestsUptoSaid : Prop := driverRestsUptoRow.holds Try.pinned (OpenSpec.upto driverRestsSpec)

/-- 'pinballlaw23.DriverCuts', WHERE WHAT IT READS IS OF BULK AT MOST 1048576: true; the input reads as it did. -/
def driverCutsUptoRow : OpenClaim := { program := "ytfgkljfoalgkaaa", sum := "69fcc6abd99e4c45c467f62e2b902bbf7aef0ea05ccd4bdb8c36093abdd1feb8", func := "pinball/pinballlaw23.DriverCuts", spec := "driverCuts", unfollowed := true, recurses := true, apart := false, narrowed := true }
def DriverCutsUptoSaid : Prop := driverCutsUptoRow.holds Try.pinned (OpenSpec.upto driverCutsSpec)

/-- 'pinballlaw24.FuseStates', WHERE WHAT IT READS IS OF BULK AT MOST 1048576: true; the input reads as it did. -/
def fuseStatesUptoRow : OpenClaim := { program := "ytfgkljfoalgkaaa", sum := "69fcc6abd99e4c45c467f62e2b902bbf7aef0ea05ccd4bdb8c36093abdd1feb8", func := "pinball/pinballlaw24.FuseStates", spec := "fuseStates", unfollowed := true, recurses := true, apart := false, narrowed := true }
def FuseStatesUptoSaid : Prop := fuseStatesUptoRow.holds Try.pinned (OpenSpec.upto fuseStatesSpec)

/-- 'pinballlaw24.FuseLoads', WHERE WHAT IT READS IS OF BULK AT MOST 1048576: true; the input reads as it did. -/
def fuseLoadsUptoRow : OpenClaim := { program := "ytfgkljfoalgkaaa", sum := "69fcc6abd99e4c45c467f62e2b902bbf7aef0ea05ccd4bdb8c36093abdd1feb8", func := "pinball/pinballlaw24.FuseLoads", spec := "fuseLoads", unfollowed := true, recurses := true, apart := false, narrowed := true }
def FuseLoadsUptoSaid : Prop := fuseLoadsUptoRow.holds Try.pinned (OpenSpec.upto fuseLoadsSpec)

/-- 'pinballlaw24.FuseGuards', WHERE WHAT IT READS IS OF BULK AT MOST 1048576: true; the input reads as it did. -/
def fuseGuardsUptoRow : OpenClaim := { program := "ytfgkljfoalgkaaa", sum := "69fcc6abd99e4c45c467f62e2b902bbf7aef0ea05ccd4bdb8c36093abdd1feb8", func := "pinball/pinballlaw24.FuseGuards", spec := "fuseGuards", unfollowed := true, recurses := true, apart := false, narrowed := true }
def FuseGuardsUptoSaid : Prop := fuseGuardsUptoRow.holds Try.pinned (OpenSpec.upto fuseGuardsSpec)

/-- 'pinballlaw24.FuseTicks', WHERE WHAT IT READS IS OF BULK AT MOST 1048576: true; the input reads as it did. -/
def fuseTicksUptoRow : OpenClaim := { program := "ytfgkljfoalgkaaa", sum := "69fcc6abd99e4c45c467f62e2b902bbf7aef0ea05ccd4bdb8c36093abdd1feb8", func := "pinball/pinballlaw24.FuseTicks", spec := "fuseTicks", unfollowed := true, recurses := true, apart := false, narrowed := true }
def FuseTicksUptoSaid : Prop := fuseTicksUptoRow.holds Try.pinned (OpenSpec.upto fuseTicksSpec)

/-- 'pinballlaw24.FuseHolds', WHERE WHAT IT READS IS OF BULK AT MOST 1048576: true; the input reads as it did. -/
def fuseHoldsUptoRow : OpenClaim := { program := "ytfgkljfoalgkaaa", sum := "69fcc6abd99e4c45c467f62e2b902bbf7aef0ea05ccd4bdb8c36093abdd1feb8", func := "pinball/pinballlaw24.FuseHolds", spec := "fuseHolds", unfollowed := true, recurses := true, apart := false, narrowed := true }
def FuseHoldsUptoSaid : Prop := fuseHoldsUptoRow.holds Try.pinned (OpenSpec.upto fuseHoldsSpec)

/-- 'pinballlaw24.FuseBlows', WHERE WHAT IT READS IS OF BULK AT MOST 1048576: true; the input reads as it did. -/
def fuseBlowsUptoRow : OpenClaim := { program := "ytfgkljfoalgkaaa", sum := "69fcc6abd99e4c45c467f62e2b902bbf7aef0ea05ccd4bdb8c36093abdd1feb8", func := "pinball/pinballlaw24.FuseBlows", spec := "fuseBlows", unfollowed := true, recurses := true, apart := false, narrowed := true }
def FuseBlowsUptoSaid : Prop := fuseBlowsUptoRow.holds Try.pinned (OpenSpec.upto fuseBlowsSpec)

/-- 'pinballlaw24.FuseMonotone', WHERE WHAT IT READS IS OF BULK AT MOST 1048576: true; the input reads as it did. -/
def fuseMonotoneUptoRow : OpenClaim := { program := "ytfgkljfoalgkaaa", sum := "69fcc6abd99e4c45c467f62e2b902bbf7aef0ea05ccd4bdb8c36093abdd1feb8", func := "pinball/pinballlaw24.FuseMonotone", spec := "fuseMonotone", unfollowed := true, recurses := true, apart := false, narrowed := true }
def FuseMonotoneUptoSaid : Prop := fuseMonotoneUptoRow.holds Try.pinned (OpenSpec.upto fuseMonotoneSpec)

/-- 'pinballlaw24.FuseSeparate', WHERE WHAT IT READS IS OF BULK AT MOST 1048576: true; the input reads as it did. -/
def fuseSeparateUptoRow : OpenClaim := { program := "ytfgkljfoalgkaaa", sum := "69fcc6abd99e4c45c467f62e2b902bbf7aef0ea05ccd4bdb8c36093abdd1feb8", func := "pinball/pinballlaw24.FuseSeparate", spec := "fuseSeparate", unfollowed := true, recurses := true, apart := false, narrowed := true }
def FuseSeparateUptoSaid : Prop := fuseSeparateUptoRow.holds Try.pinned (OpenSpec.upto fuseSeparateSpec)

/-- 'pinballlaw24.FuseReplaces', WHERE WHAT IT READS IS OF BULK AT MOST 1048576: true; the input reads as it did. -/
def fuseReplacesUptoRow : OpenClaim := { program := "ytfgkljfoalgkaaa", sum := "69fcc6abd99e4c45c467f62e2b902bbf7aef0ea05ccd4bdb8c36093abdd1feb8", func := "pinball/pinballlaw24.FuseReplaces", spec := "fuseReplaces", unfollowed := true, recurses := true, apart := false, narrowed := true }
def FuseReplacesUptoSaid : Prop := fuseReplacesUptoRow.holds Try.pinned (OpenSpec.upto fuseReplacesSpec)

end Rows
end Go.Proofs.Ytfgkljfoalgkaaa
