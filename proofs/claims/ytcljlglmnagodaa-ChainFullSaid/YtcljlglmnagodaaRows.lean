/-
  No cell of these rows narrows 'for every input' (looked for: loops, veiled, ifaces, maps, wideKeys, modest, calm, conditions, laid).
  DERIVED. THE GIVEN ROWS OF THIS SEAT. 21 by the template 'for every input the law returns true; each argument reads behind the call as it read before'; 0 by the template 'total and deterministic' (their statements: YtcljlglmnagodaaTotals.lean).
  GIVEN WITH THE SEED: the statements are not yours to turn. If you find one false, say at which input.
  Laid BY PROGRAM, IN A SANDBOX (cutbox-rows.mjs): the forced cells as the released guide's own fill.sh prints them over the translation c1468b1295f2d906… (all of the seat's roots in one cut). By AI agents, Wed Nov 11 2026. No macro, syntax, notation, axiom, sorry.
-/
import Derived.Test.YtcljlglmnagodaaChecked
import GoSem.Claim
import GoSem.ClaimJoined
import GoSem.ClaimMapViews
import Derived.JoinedTies
import Derived.KernelRfl
namespace Go.Proofs.Ytcljlglmnagodaa
/- THE CELL 'sum', in the pinned program and in every row, IS THE sha256 OF THE DUMP (.gsa) THAT YtcljlglmnagodaaProg.lean LOADS. Nothing in Lean hashes anything: it is a label: what it is worth is what the hold of that sum in a sandbox is worth. -/
noncomputable def Try.pinned : Pinned := { name := "ytcljlglmnagodaa", sum := "c1468b1295f2d906041bdf65fddadafdd82debed4bc75e7560a04d12ef126a24", checked := Try.checked }
namespace Rows
def none {H : Type} : Left H := { results := [], args := [] }

/-- 'stockyardlaw26.DeltaMakes': WHATEVER THE INPUT: true; the input reads as it did. -/
def deltaMakesSpec : ChangeSpec := { name := "deltaMakes", fn := fun _ => fun
  | [d] => { results := [.lit (.bool true)], args := [d] }
  | _ => none }
def deltaMakesRow : OpenClaim := { program := "ytcljlglmnagodaa", sum := "c1468b1295f2d906041bdf65fddadafdd82debed4bc75e7560a04d12ef126a24", func := "stockyard/stockyardlaw26.DeltaMakes", spec := "deltaMakes", unfollowed := true, recurses := true, plainKeys := false, apart := false }
def DeltaMakesSaid : Prop := deltaMakesRow.holds Try.pinned (OpenSpec.ofChange deltaMakesSpec)

/-- ITS FALSE NEIGHBOUR: 'it returns false'. Refute it at one input. -/
def deltaMakesWrong : ChangeSpec := { name := "deltaMakes", fn := fun _ => fun
  | [d] => { results := [.lit (.bool false)], args := [d] }
  | _ => none }
def DeltaMakesWrongFalsely : Prop := deltaMakesRow.holds Try.pinned (OpenSpec.ofChange deltaMakesWrong)

/-- 'stockyardlaw26.DeltaBounds': WHATEVER THE INPUT: true; the input reads as it did. -/
def deltaBoundsSpec : ChangeSpec := { name := "deltaBounds", fn := fun _ => fun
  | [d1, d2] => { results := [.lit (.bool true)], args := [d1, d2] }
  | _ => none }
def deltaBoundsRow : OpenClaim := { program := "ytcljlglmnagodaa", sum := "c1468b1295f2d906041bdf65fddadafdd82debed4bc75e7560a04d12ef126a24", func := "stockyard/stockyardlaw26.DeltaBounds", spec := "deltaBounds", unfollowed := true, recurses := true, plainKeys := false, apart := false }
def DeltaBoundsSaid : Prop := deltaBoundsRow.holds Try.pinned (OpenSpec.ofChange deltaBoundsSpec)

/-- ITS FALSE NEIGHBOUR: 'it returns false'. Refute it at one input. -/
def deltaBoundsWrong : ChangeSpec := { name := "deltaBounds", fn := fun _ => fun
  | [d1, d2] => { results := [.lit (.bool false)], args := [d1, d2] }
  | _ => none }
def DeltaBoundsWrongFalsely : Prop := deltaBoundsRow.holds Try.pinned (OpenSpec.ofChange deltaBoundsWrong)

/-- 'stockyardlaw26.DeltaAlike': WHATEVER THE INPUT: true; the input reads as it did. -/
def deltaAlikeSpec : ChangeSpec := { name := "deltaAlike", fn := fun _ => fun
  | [d1, d2] => { results := [.lit (.bool true)], args := [d1, d2] }
  | _ => none }
def deltaAlikeRow : OpenClaim := { program := "ytcljlglmnagodaa", sum := "c1468b1295f2d906041bdf65fddadafdd82debed4bc75e7560a04d12ef126a24", func := "stockyard/stockyardlaw26.DeltaAlike", spec := "deltaAlike", unfollowed := true, recurses := true, plainKeys := false, apart := false }
def DeltaAlikeSaid : Prop := deltaAlikeRow.holds Try.pinned (OpenSpec.ofChange deltaAlikeSpec)

/-- ITS FALSE NEIGHBOUR: 'it returns false'. Refute it at one input. -/
def deltaAlikeWrong : ChangeSpec := { name := "deltaAlike", fn := fun _ => fun
  | [d1, d2] => { results := [.lit (.bool false)], args := [d1, d2] }
  | _ => none }
def DeltaAlikeWrongFalsely : Prop := deltaAlikeRow.holds Try.pinned (OpenSpec.ofChange deltaAlikeWrong)

/-- 'stockyardlaw26.DeltaChecks': WHATEVER THE INPUT: true; the input reads as it did. -/
def deltaChecksSpec : ChangeSpec := { name := "deltaChecks", fn := fun _ => fun
  | [d1, d2, d3] => { results := [.lit (.bool true)], args := [d1, d2, d3] }
  | _ => none }
def deltaChecksRow : OpenClaim := { program := "ytcljlglmnagodaa", sum := "c1468b1295f2d906041bdf65fddadafdd82debed4bc75e7560a04d12ef126a24", func := "stockyard/stockyardlaw26.DeltaChecks", spec := "deltaChecks", unfollowed := true, recurses := true, plainKeys := false, apart := false }
def DeltaChecksSaid : Prop := deltaChecksRow.holds Try.pinned (OpenSpec.ofChange deltaChecksSpec)

/-- ITS FALSE NEIGHBOUR: 'it returns false'. Refute it at one input. -/
def deltaChecksWrong : ChangeSpec := { name := "deltaChecks", fn := fun _ => fun
  | [d1, d2, d3] => { results := [.lit (.bool false)], args := [d1, d2, d3] }
  | _ => none }
def DeltaChecksWrongFalsely : Prop := deltaChecksRow.holds Try.pinned (OpenSpec.ofChange deltaChecksWrong)

/-- 'stockyardlaw26.DeltaTurns': WHATEVER THE INPUT: true; the input reads as it did. -/
def deltaTurnsSpec : ChangeSpec := { name := "deltaTurns", fn := fun _ => fun
  | [d1, d2] => { results := [.lit (.bool true)], args := [d1, d2] }
  | _ => none }
def deltaTurnsRow : OpenClaim := { program := "ytcljlglmnagodaa", sum := "c1468b1295f2d906041bdf65fddadafdd82debed4bc75e7560a04d12ef126a24", func := "stockyard/stockyardlaw26.DeltaTurns", spec := "deltaTurns", unfollowed := true, recurses := true, plainKeys := false, apart := false }
def DeltaTurnsSaid : Prop := deltaTurnsRow.holds Try.pinned (OpenSpec.ofChange deltaTurnsSpec)

/-- ITS FALSE NEIGHBOUR: 'it returns false'. Refute it at one input. -/
def deltaTurnsWrong : ChangeSpec := { name := "deltaTurns", fn := fun _ => fun
  | [d1, d2] => { results := [.lit (.bool false)], args := [d1, d2] }
  | _ => none }
def DeltaTurnsWrongFalsely : Prop := deltaTurnsRow.holds Try.pinned (OpenSpec.ofChange deltaTurnsWrong)

/-- 'stockyardlaw26.DeltaNormalizes': WHATEVER THE INPUT: true; the input reads as it did. -/
def deltaNormalizesSpec : ChangeSpec := { name := "deltaNormalizes", fn := fun _ => fun
  | [d1, d2, d3] => { results := [.lit (.bool true)], args := [d1, d2, d3] }
  | _ => none }
def deltaNormalizesRow : OpenClaim := { program := "ytcljlglmnagodaa", sum := "c1468b1295f2d906041bdf65fddadafdd82debed4bc75e7560a04d12ef126a24", func := "stockyard/stockyardlaw26.DeltaNormalizes", spec := "deltaNormalizes", unfollowed := true, recurses := true, plainKeys := false, apart := false }
def DeltaNormalizesSaid : Prop := deltaNormalizesRow.holds Try.pinned (OpenSpec.ofChange deltaNormalizesSpec)

/-- ITS FALSE NEIGHBOUR: 'it returns false'. Refute it at one input. -/
def deltaNormalizesWrong : ChangeSpec := { name := "deltaNormalizes", fn := fun _ => fun
  | [d1, d2, d3] => { results := [.lit (.bool false)], args := [d1, d2, d3] }
  | _ => none }
def DeltaNormalizesWrongFalsely : Prop := deltaNormalizesRow.holds Try.pinned (OpenSpec.ofChange deltaNormalizesWrong)

/-- 'stockyardlaw26.DeltaCosts': WHATEVER THE INPUT: true; the input reads as it did. -/
def deltaCostsSpec : ChangeSpec := { name := "deltaCosts", fn := fun _ => fun
  | [d1, d2, d3] => { results := [.lit (.bool true)], args := [d1, d2, d3] }
  | _ => none }
def deltaCostsRow : OpenClaim := { program := "ytcljlglmnagodaa", sum := "c1468b1295f2d906041bdf65fddadafdd82debed4bc75e7560a04d12ef126a24", func := "stockyard/stockyardlaw26.DeltaCosts", spec := "deltaCosts", unfollowed := true, recurses := true, plainKeys := false, apart := false }
def DeltaCostsSaid : Prop := deltaCostsRow.holds Try.pinned (OpenSpec.ofChange deltaCostsSpec)

/-- ITS FALSE NEIGHBOUR: 'it returns false'. Refute it at one input. -/
def deltaCostsWrong : ChangeSpec := { name := "deltaCosts", fn := fun _ => fun
  | [d1, d2, d3] => { results := [.lit (.bool false)], args := [d1, d2, d3] }
  | _ => none }
def DeltaCostsWrongFalsely : Prop := deltaCostsRow.holds Try.pinned (OpenSpec.ofChange deltaCostsWrong)

/-- 'stockyardlaw26.DeltaComposes': WHATEVER THE INPUT: true; the input reads as it did. -/
def deltaComposesSpec : ChangeSpec := { name := "deltaComposes", fn := fun _ => fun
  | [d] => { results := [.lit (.bool true)], args := [d] }
  | _ => none }
def deltaComposesRow : OpenClaim := { program := "ytcljlglmnagodaa", sum := "c1468b1295f2d906041bdf65fddadafdd82debed4bc75e7560a04d12ef126a24", func := "stockyard/stockyardlaw26.DeltaComposes", spec := "deltaComposes", unfollowed := true, recurses := true, plainKeys := false, apart := false }
def DeltaComposesSaid : Prop := deltaComposesRow.holds Try.pinned (OpenSpec.ofChange deltaComposesSpec)

/-- ITS FALSE NEIGHBOUR: 'it returns false'. Refute it at one input. -/
def deltaComposesWrong : ChangeSpec := { name := "deltaComposes", fn := fun _ => fun
  | [d] => { results := [.lit (.bool false)], args := [d] }
  | _ => none }
def DeltaComposesWrongFalsely : Prop := deltaComposesRow.holds Try.pinned (OpenSpec.ofChange deltaComposesWrong)

/-- 'stockyardlaw26.DeltaAssociates': WHATEVER THE INPUT: true; the input reads as it did. -/
def deltaAssociatesSpec : ChangeSpec := { name := "deltaAssociates", fn := fun _ => fun
  | [d] => { results := [.lit (.bool true)], args := [d] }
  | _ => none }
def deltaAssociatesRow : OpenClaim := { program := "ytcljlglmnagodaa", sum := "c1468b1295f2d906041bdf65fddadafdd82debed4bc75e7560a04d12ef126a24", func := "stockyard/stockyardlaw26.DeltaAssociates", spec := "deltaAssociates", unfollowed := true, recurses := true, plainKeys := false, apart := false }
def DeltaAssociatesSaid : Prop := deltaAssociatesRow.holds Try.pinned (OpenSpec.ofChange deltaAssociatesSpec)

/-- ITS FALSE NEIGHBOUR: 'it returns false'. Refute it at one input. -/
def deltaAssociatesWrong : ChangeSpec := { name := "deltaAssociates", fn := fun _ => fun
  | [d] => { results := [.lit (.bool false)], args := [d] }
  | _ => none }
def DeltaAssociatesWrongFalsely : Prop := deltaAssociatesRow.holds Try.pinned (OpenSpec.ofChange deltaAssociatesWrong)

/-- 'stockyardlaw26.DeltaForms': WHATEVER THE INPUT: true; the input reads as it did. -/
def deltaFormsSpec : ChangeSpec := { name := "deltaForms", fn := fun _ => fun
  | [d1, d2, d3] => { results := [.lit (.bool true)], args := [d1, d2, d3] }
  | _ => none }
def deltaFormsRow : OpenClaim := { program := "ytcljlglmnagodaa", sum := "c1468b1295f2d906041bdf65fddadafdd82debed4bc75e7560a04d12ef126a24", func := "stockyard/stockyardlaw26.DeltaForms", spec := "deltaForms", unfollowed := true, recurses := true, plainKeys := false, apart := false }
def DeltaFormsSaid : Prop := deltaFormsRow.holds Try.pinned (OpenSpec.ofChange deltaFormsSpec)

/-- ITS FALSE NEIGHBOUR: 'it returns false'. Refute it at one input. -/
def deltaFormsWrong : ChangeSpec := { name := "deltaForms", fn := fun _ => fun
  | [d1, d2, d3] => { results := [.lit (.bool false)], args := [d1, d2, d3] }
  | _ => none }
def DeltaFormsWrongFalsely : Prop := deltaFormsRow.holds Try.pinned (OpenSpec.ofChange deltaFormsWrong)

/-- 'stockyardlaw26.DeltaGreedy': WHATEVER THE INPUT: true; the input reads as it did. -/
def deltaGreedySpec : ChangeSpec := { name := "deltaGreedy", fn := fun _ => fun
  | [d] => { results := [.lit (.bool true)], args := [d] }
  | _ => none }
def deltaGreedyRow : OpenClaim := { program := "ytcljlglmnagodaa", sum := "c1468b1295f2d906041bdf65fddadafdd82debed4bc75e7560a04d12ef126a24", func := "stockyard/stockyardlaw26.DeltaGreedy", spec := "deltaGreedy", inPlace := ["internal/bytealg.IndexByteString", "internal/bytealg.IndexString"], unfollowed := true, recurses := true, named := ["internal/bytealg.MaxLen"], plainKeys := false, apart := false }
def DeltaGreedySaid : Prop := deltaGreedyRow.holds Try.pinned (OpenSpec.ofChange deltaGreedySpec)

/-- ITS FALSE NEIGHBOUR: 'it returns false'. Refute it at one input. -/
def deltaGreedyWrong : ChangeSpec := { name := "deltaGreedy", fn := fun _ => fun
  | [d] => { results := [.lit (.bool false)], args := [d] }
  | _ => none }
def DeltaGreedyWrongFalsely : Prop := deltaGreedyRow.holds Try.pinned (OpenSpec.ofChange deltaGreedyWrong)

/-- 'stockyardlaw26.DeltaChains': WHATEVER THE INPUT: true; the input reads as it did. -/
def deltaChainsSpec : ChangeSpec := { name := "deltaChains", fn := fun _ => fun
  | [d] => { results := [.lit (.bool true)], args := [d] }
  | _ => none }
def deltaChainsRow : OpenClaim := { program := "ytcljlglmnagodaa", sum := "c1468b1295f2d906041bdf65fddadafdd82debed4bc75e7560a04d12ef126a24", func := "stockyard/stockyardlaw26.DeltaChains", spec := "deltaChains", unfollowed := true, recurses := true, plainKeys := false, apart := false }
def DeltaChainsSaid : Prop := deltaChainsRow.holds Try.pinned (OpenSpec.ofChange deltaChainsSpec)

/-- ITS FALSE NEIGHBOUR: 'it returns false'. Refute it at one input. -/
def deltaChainsWrong : ChangeSpec := { name := "deltaChains", fn := fun _ => fun
  | [d] => { results := [.lit (.bool false)], args := [d] }
  | _ => none }
def DeltaChainsWrongFalsely : Prop := deltaChainsRow.holds Try.pinned (OpenSpec.ofChange deltaChainsWrong)

/-- 'stockyardlaw27.ChainAppends': WHATEVER THE INPUT: true; the input reads as it did. -/
def chainAppendsSpec : ChangeSpec := { name := "chainAppends", fn := fun _ => fun
  | [d] => { results := [.lit (.bool true)], args := [d] }
  | _ => none }
def chainAppendsRow : OpenClaim := { program := "ytcljlglmnagodaa", sum := "c1468b1295f2d906041bdf65fddadafdd82debed4bc75e7560a04d12ef126a24", func := "stockyard/stockyardlaw27.ChainAppends", spec := "chainAppends", unfollowed := true, recurses := true, plainKeys := false, apart := false }
def ChainAppendsSaid : Prop := chainAppendsRow.holds Try.pinned (OpenSpec.ofChange chainAppendsSpec)

/-- ITS FALSE NEIGHBOUR: 'it returns false'. Refute it at one input. -/
def chainAppendsWrong : ChangeSpec := { name := "chainAppends", fn := fun _ => fun
  | [d] => { results := [.lit (.bool false)], args := [d] }
  | _ => none }
def ChainAppendsWrongFalsely : Prop := chainAppendsRow.holds Try.pinned (OpenSpec.ofChange chainAppendsWrong)

/-- 'stockyardlaw27.ChainDeep': WHATEVER THE INPUT: true; the input reads as it did. -/
def chainDeepSpec : ChangeSpec := { name := "chainDeep", fn := fun _ => fun
  | [d1, d2] => { results := [.lit (.bool true)], args := [d1, d2] }
  | _ => none }
def chainDeepRow : OpenClaim := { program := "ytcljlglmnagodaa", sum := "c1468b1295f2d906041bdf65fddadafdd82debed4bc75e7560a04d12ef126a24", func := "stockyard/stockyardlaw27.ChainDeep", spec := "chainDeep", unfollowed := true, recurses := true, plainKeys := false, apart := false }
def ChainDeepSaid : Prop := chainDeepRow.holds Try.pinned (OpenSpec.ofChange chainDeepSpec)

/-- ITS FALSE NEIGHBOUR: 'it returns false'. Refute it at one input. -/
def chainDeepWrong : ChangeSpec := { name := "chainDeep", fn := fun _ => fun
  | [d1, d2] => { results := [.lit (.bool false)], args := [d1, d2] }
  | _ => none }
def ChainDeepWrongFalsely : Prop := chainDeepRow.holds Try.pinned (OpenSpec.ofChange chainDeepWrong)

/-- 'stockyardlaw27.ChainGets': WHATEVER THE INPUT: true; the input reads as it did. -/
def chainGetsSpec : ChangeSpec := { name := "chainGets", fn := fun _ => fun
  | [d1, d2] => { results := [.lit (.bool true)], args := [d1, d2] }
  | _ => none }
def chainGetsRow : OpenClaim := { program := "ytcljlglmnagodaa", sum := "c1468b1295f2d906041bdf65fddadafdd82debed4bc75e7560a04d12ef126a24", func := "stockyard/stockyardlaw27.ChainGets", spec := "chainGets", unfollowed := true, recurses := true, plainKeys := false, apart := false }
def ChainGetsSaid : Prop := chainGetsRow.holds Try.pinned (OpenSpec.ofChange chainGetsSpec)

/-- ITS FALSE NEIGHBOUR: 'it returns false'. Refute it at one input. -/
def chainGetsWrong : ChangeSpec := { name := "chainGets", fn := fun _ => fun
  | [d1, d2] => { results := [.lit (.bool false)], args := [d1, d2] }
  | _ => none }
def ChainGetsWrongFalsely : Prop := chainGetsRow.holds Try.pinned (OpenSpec.ofChange chainGetsWrong)

/-- 'stockyardlaw27.ChainThrift': WHATEVER THE INPUT: true; the input reads as it did. -/
def chainThriftSpec : ChangeSpec := { name := "chainThrift", fn := fun _ => fun
  | [d] => { results := [.lit (.bool true)], args := [d] }
  | _ => none }
def chainThriftRow : OpenClaim := { program := "ytcljlglmnagodaa", sum := "c1468b1295f2d906041bdf65fddadafdd82debed4bc75e7560a04d12ef126a24", func := "stockyard/stockyardlaw27.ChainThrift", spec := "chainThrift", unfollowed := true, recurses := true, plainKeys := false, apart := false }
def ChainThriftSaid : Prop := chainThriftRow.holds Try.pinned (OpenSpec.ofChange chainThriftSpec)

/-- ITS FALSE NEIGHBOUR: 'it returns false'. Refute it at one input. -/
def chainThriftWrong : ChangeSpec := { name := "chainThrift", fn := fun _ => fun
  | [d] => { results := [.lit (.bool false)], args := [d] }
  | _ => none }
def ChainThriftWrongFalsely : Prop := chainThriftRow.holds Try.pinned (OpenSpec.ofChange chainThriftWrong)

/-- 'stockyardlaw27.ChainDrops': WHATEVER THE INPUT: true; the input reads as it did. -/
def chainDropsSpec : ChangeSpec := { name := "chainDrops", fn := fun _ => fun
  | [d1, d2] => { results := [.lit (.bool true)], args := [d1, d2] }
  | _ => none }
def chainDropsRow : OpenClaim := { program := "ytcljlglmnagodaa", sum := "c1468b1295f2d906041bdf65fddadafdd82debed4bc75e7560a04d12ef126a24", func := "stockyard/stockyardlaw27.ChainDrops", spec := "chainDrops", unfollowed := true, recurses := true, plainKeys := false, apart := false }
def ChainDropsSaid : Prop := chainDropsRow.holds Try.pinned (OpenSpec.ofChange chainDropsSpec)

/-- ITS FALSE NEIGHBOUR: 'it returns false'. Refute it at one input. -/
def chainDropsWrong : ChangeSpec := { name := "chainDrops", fn := fun _ => fun
  | [d1, d2] => { results := [.lit (.bool false)], args := [d1, d2] }
  | _ => none }
def ChainDropsWrongFalsely : Prop := chainDropsRow.holds Try.pinned (OpenSpec.ofChange chainDropsWrong)

/-- 'stockyardlaw27.ChainFull': WHATEVER THE INPUT: true; the input reads as it did. -/
def chainFullSpec : ChangeSpec := { name := "chainFull", fn := fun _ => fun
  | [d] => { results := [.lit (.bool true)], args := [d] }
  | _ => none }
def chainFullRow : OpenClaim := { program := "ytcljlglmnagodaa", sum := "c1468b1295f2d906041bdf65fddadafdd82debed4bc75e7560a04d12ef126a24", func := "stockyard/stockyardlaw27.ChainFull", spec := "chainFull", unfollowed := true, recurses := true, plainKeys := false, apart := false }
def ChainFullSaid : Prop := chainFullRow.holds Try.pinned (OpenSpec.ofChange chainFullSpec)

/-- ITS FALSE NEIGHBOUR: 'it returns false'. Refute it at one input. -/
def chainFullWrong : ChangeSpec := { name := "chainFull", fn := fun _ => fun
  | [d] => { results := [.lit (.bool false)], args := [d] }
  | _ => none }
def ChainFullWrongFalsely : Prop := chainFullRow.holds Try.pinned (OpenSpec.ofChange chainFullWrong)

/-- 'stockyardlaw27.ChainKeeps': WHATEVER THE INPUT: true; the input reads as it did. -/
def chainKeepsSpec : ChangeSpec := { name := "chainKeeps", fn := fun _ => fun
  | [d] => { results := [.lit (.bool true)], args := [d] }
  | _ => none }
def chainKeepsRow : OpenClaim := { program := "ytcljlglmnagodaa", sum := "c1468b1295f2d906041bdf65fddadafdd82debed4bc75e7560a04d12ef126a24", func := "stockyard/stockyardlaw27.ChainKeeps", spec := "chainKeeps", unfollowed := true, recurses := true, plainKeys := false, apart := false }
def ChainKeepsSaid : Prop := chainKeepsRow.holds Try.pinned (OpenSpec.ofChange chainKeepsSpec)

/-- ITS FALSE NEIGHBOUR: 'it returns false'. Refute it at one input. -/
def chainKeepsWrong : ChangeSpec := { name := "chainKeeps", fn := fun _ => fun
  | [d] => { results := [.lit (.bool false)], args := [d] }
  | _ => none }
def ChainKeepsWrongFalsely : Prop := chainKeepsRow.holds Try.pinned (OpenSpec.ofChange chainKeepsWrong)

/-- 'stockyardlaw27.ChainStill': WHATEVER THE INPUT: true; the input reads as it did. -/
def chainStillSpec : ChangeSpec := { name := "chainStill", fn := fun _ => fun
  | [d] => { results := [.lit (.bool true)], args := [d] }
  | _ => none }
def chainStillRow : OpenClaim := { program := "ytcljlglmnagodaa", sum := "c1468b1295f2d906041bdf65fddadafdd82debed4bc75e7560a04d12ef126a24", func := "stockyard/stockyardlaw27.ChainStill", spec := "chainStill", unfollowed := true, recurses := true, plainKeys := false, apart := false }
def ChainStillSaid : Prop := chainStillRow.holds Try.pinned (OpenSpec.ofChange chainStillSpec)

/-- ITS FALSE NEIGHBOUR: 'it returns false'. Refute it at one input. -/
def chainStillWrong : ChangeSpec := { name := "chainStill", fn := fun _ => fun
  | [d] => { results := [.lit (.bool false)], args := [d] }
  | _ => none }
def ChainStillWrongFalsely : Prop := chainStillRow.holds Try.pinned (OpenSpec.ofChange chainStillWrong)

/-- 'stockyardlaw27.ChainChecks': WHATEVER THE INPUT: true; the input reads as it did. -/
def chainChecksSpec : ChangeSpec := { name := "chainChecks", fn := fun _ => fun
  | [d1, d2] => { results := [.lit (.bool true)], args := [d1, d2] }
  | _ => none }
def chainChecksRow : OpenClaim := { program := "ytcljlglmnagodaa", sum := "c1468b1295f2d906041bdf65fddadafdd82debed4bc75e7560a04d12ef126a24", func := "stockyard/stockyardlaw27.ChainChecks", spec := "chainChecks", unfollowed := true, recurses := true, plainKeys := false, apart := false }
def ChainChecksSaid : Prop := chainChecksRow.holds Try.pinned (OpenSpec.ofChange chainChecksSpec)

/-- ITS FALSE NEIGHBOUR: 'it returns false'. Refute it at one input. -/
def chainChecksWrong : ChangeSpec := { name := "chainChecks", fn := fun _ => fun
  | [d1, d2] => { results := [.lit (.bool false)], args := [d1, d2] }
  | _ => none }
def ChainChecksWrongFalsely : Prop := chainChecksRow.holds Try.pinned (OpenSpec.ofChange chainChecksWrong)

/- THE SECOND FORM. 'bulk': how many values and letters a reading holds, each counted each time it is reached (what is shared counts as often as it is met; a slice's spare places count too). A statement '..UptoSaid' is the law's where the arguments, and the package variables that the reading takes, are together of bulk at most 1048576: NARROWER than '..Said'. Prove '..Said' where nothing that the law and all that it calls make is longer than what came in: it says more and counts as full. Else prove '..UptoSaid'. A law counts once. -/
mutual
def uptoBulk {H : Type} : DataW H → Nat
  | .lit (.string bytes) => bytes.length + 1
  | .lit _ => 1
  | .nil => 1
  | .ptr d => uptoBulk d + 1
  | .slice elems spare => uptoBulkAll elems + uptoBulkAll spare + 1
  | .agg parts => uptoBulkAll parts + 1
  | .iface _ d => uptoBulk d + 1
  | .map entries => uptoBulkEntries entries + 1
  | .held _ => 1
def uptoBulkAll {H : Type} : List (DataW H) → Nat
  | [] => 0
  | d :: r => uptoBulk d + uptoBulkAll r
def uptoBulkEntries {H : Type} : List (Lit × DataW H) → Nat
  | [] => 0
  | x :: r => uptoBulkEntry x + uptoBulkEntries r
def uptoBulkEntry {H : Type} : Lit × DataW H → Nat
  | (.string bytes, d) => bytes.length + uptoBulk d + 1
  | (_, d) => uptoBulk d + 1
 end
def uptoSmall : (H : Type) → List (DataW H) → Bool := fun _ ds => decide (uptoBulkAll ds ≤ 1048576)
def OpenSpec.upto (s : _root_.Go.ChangeSpec) : _root_.Go.OpenSpec := { _root_.Go.OpenSpec.ofChange s with cond := some uptoSmall }

/-- 'stockyardlaw26.DeltaMakes', WHERE WHAT IT READS IS OF BULK AT MOST 1048576: true; the input reads as it did. -/
def deltaMakesUptoRow : OpenClaim := { program := "ytcljlglmnagodaa", sum := "c1468b1295f2d906041bdf65fddadafdd82debed4bc75e7560a04d12ef126a24", func := "stockyard/stockyardlaw26.DeltaMakes", spec := "deltaMakes", unfollowed := true, recurses := true, plainKeys := false, apart := false, narrowed := true }
def DeltaMakesUptoSaid : Prop := deltaMakesUptoRow.holds Try.pinned (OpenSpec.upto deltaMakesSpec)

/-- 'stockyardlaw26.DeltaBounds', WHERE WHAT IT READS IS OF BULK AT MOST 1048576: true; the input reads as it did. -/
def deltaBoundsUptoRow : OpenClaim := { program := "ytcljlglmnagodaa", sum := "c1468b1295f2d906041bdf65fddadafdd82debed4bc75e7560a04d12ef126a24", func := "stockyard/stockyardlaw26.DeltaBounds", spec := "deltaBounds", unfollowed := true, recurses := true, plainKeys := false, apart := false, narrowed := true }
def DeltaBoundsUptoSaid : Prop := deltaBoundsUptoRow.holds Try.pinned (OpenSpec.upto deltaBoundsSpec)

/-- 'stockyardlaw26.DeltaAlike', WHERE WHAT IT READS IS OF BULK AT MOST 1048576: true; the input reads as it did. -/
def deltaAlikeUptoRow : OpenClaim := { program := "ytcljlglmnagodaa", sum := "c1468b1295f2d906041bdf65fddadafdd82debed4bc75e7560a04d12ef126a24", func := "stockyard/stockyardlaw26.DeltaAlike", spec := "deltaAlike", unfollowed := true, recurses := true, plainKeys := false, apart := false, narrowed := true }
def DeltaAlikeUptoSaid : Prop := deltaAlikeUptoRow.holds Try.pinned (OpenSpec.upto deltaAlikeSpec)

/-- 'stockyardlaw26.DeltaChecks', WHERE WHAT IT READS IS OF BULK AT MOST 1048576: true; the input reads as it did. -/
def deltaChecksUptoRow : OpenClaim := { program := "ytcljlglmnagodaa", sum := "c1468b1295f2d906041bdf65fddadafdd82debed4bc75e7560a04d12ef126a24", func := "stockyard/stockyardlaw26.DeltaChecks", spec := "deltaChecks", unfollowed := true, recurses := true, plainKeys := false, apart := false, narrowed := true }
def DeltaChecksUptoSaid : Prop := deltaChecksUptoRow.holds Try.pinned (OpenSpec.upto deltaChecksSpec)

/-- 'stockyardlaw26.DeltaTurns', WHERE WHAT IT READS IS OF BULK AT MOST 1048576: true; the input reads as it did. -/
def deltaTurnsUptoRow : OpenClaim := { program := "ytcljlglmnagodaa", sum := "c1468b1295f2d906041bdf65fddadafdd82debed4bc75e7560a04d12ef126a24", func := "stockyard/stockyardlaw26.DeltaTurns", spec := "deltaTurns", unfollowed := true, recurses := true, plainKeys := false, apart := false, narrowed := true }
def DeltaTurnsUptoSaid : Prop := deltaTurnsUptoRow.holds Try.pinned (OpenSpec.upto deltaTurnsSpec)

/-- 'stockyardlaw26.DeltaNormalizes', WHERE WHAT IT READS IS OF BULK AT MOST 1048576: true; the input reads as it did. -/
def deltaNormalizesUptoRow : OpenClaim := { program := "ytcljlglmnagodaa", sum := "c1468b1295f2d906041bdf65fddadafdd82debed4bc75e7560a04d12ef126a24", func := "stockyard/stockyardlaw26.DeltaNormalizes", spec := "deltaNormalizes", unfollowed := true, recurses := true, plainKeys := false, apart := false, narrowed := true }
def DeltaNormalizesUptoSaid : Prop := deltaNormalizesUptoRow.holds Try.pinned (OpenSpec.upto deltaNormalizesSpec)

/-- 'stockyardlaw26.DeltaCosts', WHERE WHAT IT READS IS OF BULK AT MOST 1048576: true; the input reads as it did. -/
def deltaCostsUptoRow : OpenClaim := { program := "ytcljlglmnagodaa", sum := "c1468b1295f2d906041bdf65fddadafdd82debed4bc75e7560a04d12ef126a24", func := "stockyard/stockyardlaw26.DeltaCosts", spec := "deltaCosts", unfollowed := true, recurses := true, plainKeys := false, apart := false, narrowed := true }
def DeltaCostsUptoSaid : Prop := deltaCostsUptoRow.holds Try.pinned (OpenSpec.upto deltaCostsSpec)

/-- 'stockyardlaw26.DeltaComposes', WHERE WHAT IT READS IS OF BULK AT MOST 1048576: true; the input reads as it did. -/
def deltaComposesUptoRow : OpenClaim := { program := "ytcljlglmnagodaa", sum := "c1468b1295f2d906041bdf65fddadafdd82debed4bc75e7560a04d12ef126a24", func := "stockyard/stockyardlaw26.DeltaComposes", spec := "deltaComposes", unfollowed := true, recurses := true, plainKeys := false, apart := false, narrowed := true }
def DeltaComposesUptoSaid : Prop := deltaComposesUptoRow.holds Try.pinned (OpenSpec.upto deltaComposesSpec)

/-- 'stockyardlaw26.DeltaAssociates', WHERE WHAT IT READS IS OF BULK AT MOST 1048576: true; the input reads as it did. -/
def deltaAssociatesUptoRow : OpenClaim := { program := "ytcljlglmnagodaa", sum := "c1468b1295f2d906041bdf65fddadafdd82debed4bc75e7560a04d12ef126a24", func := "stockyard/stockyardlaw26.DeltaAssociates", spec := "deltaAssociates", unfollowed := true, recurses := true, plainKeys := false, apart := false, narrowed := true }
def DeltaAssociatesUptoSaid : Prop := deltaAssociatesUptoRow.holds Try.pinned (OpenSpec.upto deltaAssociatesSpec)

/-- 'stockyardlaw26.DeltaForms', WHERE WHAT IT READS IS OF BULK AT MOST 1048576: true; the input reads as it did. -/
def deltaFormsUptoRow : OpenClaim := { program := "ytcljlglmnagodaa", sum := "c1468b1295f2d906041bdf65fddadafdd82debed4bc75e7560a04d12ef126a24", func := "stockyard/stockyardlaw26.DeltaForms", spec := "deltaForms", unfollowed := true, recurses := true, plainKeys := false, apart := false, narrowed := true }
def DeltaFormsUptoSaid : Prop := deltaFormsUptoRow.holds Try.pinned (OpenSpec.upto deltaFormsSpec)

/-- 'stockyardlaw26.DeltaGreedy', WHERE WHAT IT READS IS OF BULK AT MOST 1048576: true; the input reads as it did. -/
def deltaGreedyUptoRow : OpenClaim := { program := "ytcljlglmnagodaa", sum := "c1468b1295f2d906041bdf65fddadafdd82debed4bc75e7560a04d12ef126a24", func := "stockyard/stockyardlaw26.DeltaGreedy", spec := "deltaGreedy", inPlace := ["internal/bytealg.IndexByteString", "internal/bytealg.IndexString"], unfollowed := true, recurses := true, named := ["internal/bytealg.MaxLen"], plainKeys := false, apart := false, narrowed := true }
def DeltaGreedyUptoSaid : Prop := deltaGreedyUptoRow.holds Try.pinned (OpenSpec.upto deltaGreedySpec)

/-- 'stockyardlaw26.DeltaChains', WHERE WHAT IT READS IS OF BULK AT MOST 1048576: true; the input reads as it did. -/
def deltaChainsUptoRow : OpenClaim := { program := "ytcljlglmnagodaa", sum := "c1468b1295f2d906041bdf65fddadafdd82debed4bc75e7560a04d12ef126a24", func := "stockyard/stockyardlaw26.DeltaChains", spec := "deltaChains", unfollowed := true, recurses := true, plainKeys := false, apart := false, narrowed := true }
def DeltaChainsUptoSaid : Prop := deltaChainsUptoRow.holds Try.pinned (OpenSpec.upto deltaChainsSpec)

/-- 'stockyardlaw27.ChainAppends', WHERE WHAT IT READS IS OF BULK AT MOST 1048576: true; the input reads as it did. -/
def chainAppendsUptoRow : OpenClaim := { program := "ytcljlglmnagodaa", sum := "c1468b1295f2d906041bdf65fddadafdd82debed4bc75e7560a04d12ef126a24", func := "stockyard/stockyardlaw27.ChainAppends", spec := "chainAppends", unfollowed := true, recurses := true, plainKeys := false, apart := false, narrowed := true }
def ChainAppendsUptoSaid : Prop := chainAppendsUptoRow.holds Try.pinned (OpenSpec.upto chainAppendsSpec)

/-- 'stockyardlaw27.ChainDeep', WHERE WHAT IT READS IS OF BULK AT MOST 1048576: true; the input reads as it did. -/
def chainDeepUptoRow : OpenClaim := { program := "ytcljlglmnagodaa", sum := "c1468b1295f2d906041bdf65fddadafdd82debed4bc75e7560a04d12ef126a24", func := "stockyard/stockyardlaw27.ChainDeep", spec := "chainDeep", unfollowed := true, recurses := true, plainKeys := false, apart := false, narrowed := true }
def ChainDeepUptoSaid : Prop := chainDeepUptoRow.holds Try.pinned (OpenSpec.upto chainDeepSpec)

/-- 'stockyardlaw27.ChainGets', WHERE WHAT IT READS IS OF BULK AT MOST 1048576: true; the input reads as it did. -/
def chainGetsUptoRow : OpenClaim := { program := "ytcljlglmnagodaa", sum := "c1468b1295f2d906041bdf65fddadafdd82debed4bc75e7560a04d12ef126a24", func := "stockyard/stockyardlaw27.ChainGets", spec := "chainGets", unfollowed := true, recurses := true, plainKeys := false, apart := false, narrowed := true }
def ChainGetsUptoSaid : Prop := chainGetsUptoRow.holds Try.pinned (OpenSpec.upto chainGetsSpec)

/-- 'stockyardlaw27.ChainThrift', WHERE WHAT IT READS IS OF BULK AT MOST 1048576: true; the input reads as it did. -/
def chainThriftUptoRow : OpenClaim := { program := "ytcljlglmnagodaa", sum := "c1468b1295f2d906041bdf65fddadafdd82debed4bc75e7560a04d12ef126a24", func := "stockyard/stockyardlaw27.ChainThrift", spec := "chainThrift", unfollowed := true, recurses := true, plainKeys := false, apart := false, narrowed := true }
def ChainThriftUptoSaid : Prop := chainThriftUptoRow.holds Try.pinned (OpenSpec.upto chainThriftSpec)

/-- 'stockyardlaw27.ChainDrops', WHERE WHAT IT READS IS OF BULK AT MOST 1048576: true; the input reads as it did. -/
def chainDropsUptoRow : OpenClaim := { program := "ytcljlglmnagodaa", sum := "c1468b1295f2d906041bdf65fddadafdd82debed4bc75e7560a04d12ef126a24", func := "stockyard/stockyardlaw27.ChainDrops", spec := "chainDrops", unfollowed := true, recurses := true, plainKeys := false, apart := false, narrowed := true }
def ChainDropsUptoSaid : Prop := chainDropsUptoRow.holds Try.pinned (OpenSpec.upto chainDropsSpec)

/-- 'stockyardlaw27.ChainFull', WHERE WHAT IT READS IS OF BULK AT MOST 1048576: true; the input reads as it did. -/
def chainFullUptoRow : OpenClaim := { program := "ytcljlglmnagodaa", sum := "c1468b1295f2d906041bdf65fddadafdd82debed4bc75e7560a04d12ef126a24", func := "stockyard/stockyardlaw27.ChainFull", spec := "chainFull", unfollowed := true, recurses := true, plainKeys := false, apart := false, narrowed := true }
def ChainFullUptoSaid : Prop := chainFullUptoRow.holds Try.pinned (OpenSpec.upto chainFullSpec)

/-- 'stockyardlaw27.ChainKeeps', WHERE WHAT IT READS IS OF BULK AT MOST 1048576: true; the input reads as it did. -/
def chainKeepsUptoRow : OpenClaim := { program := "ytcljlglmnagodaa", sum := "c1468b1295f2d906041bdf65fddadafdd82debed4bc75e7560a04d12ef126a24", func := "stockyard/stockyardlaw27.ChainKeeps", spec := "chainKeeps", unfollowed := true, recurses := true, plainKeys := false, apart := false, narrowed := true }
def ChainKeepsUptoSaid : Prop := chainKeepsUptoRow.holds Try.pinned (OpenSpec.upto chainKeepsSpec)

/-- 'stockyardlaw27.ChainStill', WHERE WHAT IT READS IS OF BULK AT MOST 1048576: true; the input reads as it did. -/
def chainStillUptoRow : OpenClaim := { program := "ytcljlglmnagodaa", sum := "c1468b1295f2d906041bdf65fddadafdd82debed4bc75e7560a04d12ef126a24", func := "stockyard/stockyardlaw27.ChainStill", spec := "chainStill", unfollowed := true, recurses := true, plainKeys := false, apart := false, narrowed := true }
def ChainStillUptoSaid : Prop := chainStillUptoRow.holds Try.pinned (OpenSpec.upto chainStillSpec)

/-- 'stockyardlaw27.ChainChecks', WHERE WHAT IT READS IS OF BULK AT MOST 1048576: true; the input reads as it did. -/
def chainChecksUptoRow : OpenClaim := { program := "ytcljlglmnagodaa", sum := "c1468b1295f2d906041bdf65fddadafdd82debed4bc75e7560a04d12ef126a24", func := "stockyard/stockyardlaw27.ChainChecks", spec := "chainChecks", unfollowed := true, recurses := true, plainKeys := false, apart := false, narrowed := true }
def ChainChecksUptoSaid : Prop := chainChecksUptoRow.holds Try.pinned (OpenSpec.upto chainChecksSpec)

end Rows
end Go.Proofs.Ytcljlglmnagodaa
