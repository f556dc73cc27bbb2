/-
  No cell of these rows narrows 'for every input' (looked for: loops, veiled, ifaces, maps, wideKeys, modest, calm, conditions, laid).
  DERIVED. THE GIVEN ROWS OF THIS SEAT. 7 by the template 'for every input the law returns true; each argument reads behind the call as it read before'; 0 by the template 'total and deterministic' (their statements: YtkhjeeaojlaagaaTotals.lean).
  GIVEN WITH THE SEED: the statements are not yours to turn. If you find one false, say at which input.
  Laid BY PROGRAM, IN A SANDBOX (cutbox-rows.mjs): the forced cells as the released guide's own fill.sh prints them over the translation 15294bcab2dcb2cc… (all of the seat's roots in one cut). By AI agents, Wed Nov 11 2026. No macro, syntax, notation, axiom, sorry.
-/
import Derived.Test.YtkhjeeaojlaagaaChecked
import GoSem.Claim
import GoSem.ClaimJoined
import GoSem.ClaimMapViews
import Derived.JoinedTies
import Derived.KernelRfl
namespace Go.Proofs.Ytkhjeeaojlaagaa
/- THE CELL 'sum', in the pinned program and in every row, IS THE sha256 OF THE DUMP (.gsa) THAT YtkhjeeaojlaagaaProg.lean LOADS. Nothing in Lean hashes anything: it is a label: what it is worth is what the hold of that sum in a sandbox is worth. -/
noncomputable def Try.pinned : Pinned := { name := "ytkhjeeaojlaagaa", sum := "15294bcab2dcb2cc453966670c5e4c56e631843ac058b86991655efec33f383a", checked := Try.checked }
namespace Rows
def none {H : Type} : Left H := { results := [], args := [] }

/-- 'stockyardlaw27.ChainAppends': WHATEVER THE INPUT: true; the input reads as it did. -/
def chainAppendsSpec : ChangeSpec := { name := "chainAppends", fn := fun _ => fun
  | [d] => { results := [.lit (.bool true)], args := [d] }
  | _ => none }
def chainAppendsRow : OpenClaim := { program := "ytkhjeeaojlaagaa", sum := "15294bcab2dcb2cc453966670c5e4c56e631843ac058b86991655efec33f383a", func := "stockyard/stockyardlaw27.ChainAppends", spec := "chainAppends", unfollowed := true, recurses := true, plainKeys := false, apart := false }
def ChainAppendsSaid : Prop := chainAppendsRow.holds Try.pinned (OpenSpec.ofChange chainAppendsSpec)

/-- ITS FALSE NEIGHBOUR: 'it returns false'. Refute it at one input. -/
def chainAppendsWrong : ChangeSpec := { name := "chainAppends", fn := fun _ => fun
  | [d] => { results := [.lit (.bool false)], args := [d] }
  | _ => none }
def ChainAppendsWrongFalsely : Prop := chainAppendsRow.holds Try.pinned (OpenSpec.ofChange chainAppendsWrong)

/-- 'stockyardlaw27.ChainGets': WHATEVER THE INPUT: true; the input reads as it did. -/
def chainGetsSpec : ChangeSpec := { name := "chainGets", fn := fun _ => fun
  | [d1, d2] => { results := [.lit (.bool true)], args := [d1, d2] }
  | _ => none }
def chainGetsRow : OpenClaim := { program := "ytkhjeeaojlaagaa", sum := "15294bcab2dcb2cc453966670c5e4c56e631843ac058b86991655efec33f383a", func := "stockyard/stockyardlaw27.ChainGets", spec := "chainGets", unfollowed := true, recurses := true, plainKeys := false, apart := false }
def ChainGetsSaid : Prop := chainGetsRow.holds Try.pinned (OpenSpec.ofChange chainGetsSpec)

/-- ITS FALSE NEIGHBOUR: 'it returns false'. Refute it at one input. -/
def chainGetsWrong : ChangeSpec := { name := "chainGets", fn := fun _ => fun
  | [d1, d2] => { results := [.lit (.bool false)], args := [d1, d2] }
  | _ => none }
def ChainGetsWrongFalsely : Prop := chainGetsRow.holds Try.pinned (OpenSpec.ofChange chainGetsWrong)

/-- 'stockyardlaw27.ChainThrift': WHATEVER THE INPUT: true; the input reads as it did. -/
def chainThriftSpec : ChangeSpec := { name := "chainThrift", fn := fun _ => fun
  | [d] => { results := [.lit (.bool true)], args := [d] }
  | _ => none }
def chainThriftRow : OpenClaim := { program := "ytkhjeeaojlaagaa", sum := "15294bcab2dcb2cc453966670c5e4c56e631843ac058b86991655efec33f383a", func := "stockyard/stockyardlaw27.ChainThrift", spec := "chainThrift", unfollowed := true, recurses := true, plainKeys := false, apart := false }
def ChainThriftSaid : Prop := chainThriftRow.holds Try.pinned (OpenSpec.ofChange chainThriftSpec)

/-- ITS FALSE NEIGHBOUR: 'it returns false'. Refute it at one input. -/
def chainThriftWrong : ChangeSpec := { name := "chainThrift", fn := fun _ => fun
  | [d] => { results := [.lit (.bool false)], args := [d] }
  | _ => none }
def ChainThriftWrongFalsely : Prop := chainThriftRow.holds Try.pinned (OpenSpec.ofChange chainThriftWrong)

/-- 'stockyardlaw27.ChainDrops': WHATEVER THE INPUT: true; the input reads as it did. -/
def chainDropsSpec : ChangeSpec := { name := "chainDrops", fn := fun _ => fun
  | [d1, d2] => { results := [.lit (.bool true)], args := [d1, d2] }
  | _ => none }
def chainDropsRow : OpenClaim := { program := "ytkhjeeaojlaagaa", sum := "15294bcab2dcb2cc453966670c5e4c56e631843ac058b86991655efec33f383a", func := "stockyard/stockyardlaw27.ChainDrops", spec := "chainDrops", unfollowed := true, recurses := true, plainKeys := false, apart := false }
def ChainDropsSaid : Prop := chainDropsRow.holds Try.pinned (OpenSpec.ofChange chainDropsSpec)

/-- ITS FALSE NEIGHBOUR: 'it returns false'. Refute it at one input. -/
def chainDropsWrong : ChangeSpec := { name := "chainDrops", fn := fun _ => fun
  | [d1, d2] => { results := [.lit (.bool false)], args := [d1, d2] }
  | _ => none }
def ChainDropsWrongFalsely : Prop := chainDropsRow.holds Try.pinned (OpenSpec.ofChange chainDropsWrong)

/-- 'stockyardlaw27.ChainKeeps': WHATEVER THE INPUT: true; the input reads as it did. -/
def chainKeepsSpec : ChangeSpec := { name := "chainKeeps", fn := fun _ => fun
  | [d] => { results := [.lit (.bool true)], args := [d] }
  | _ => none }
def chainKeepsRow : OpenClaim := { program := "ytkhjeeaojlaagaa", sum := "15294bcab2dcb2cc453966670c5e4c56e631843ac058b86991655efec33f383a", func := "stockyard/stockyardlaw27.ChainKeeps", spec := "chainKeeps", unfollowed := true, recurses := true, plainKeys := false, apart := false }
def ChainKeepsSaid : Prop := chainKeepsRow.holds Try.pinned (OpenSpec.ofChange chainKeepsSpec)

/-- ITS FALSE NEIGHBOUR: 'it returns false'. Refute it at one input. -/
def chainKeepsWrong : ChangeSpec := { name := "chainKeeps", fn := fun _ => fun
  | [d] => { results := [.lit (.bool false)], args := [d] }
  | _ => none }
def ChainKeepsWrongFalsely : Prop := chainKeepsRow.holds Try.pinned (OpenSpec.ofChange chainKeepsWrong)

/-- 'stockyardlaw27.ChainStill': WHATEVER THE INPUT: true; the input reads as it did. -/
def chainStillSpec : ChangeSpec := { name := "chainStill", fn := fun _ => fun
  | [d] => { results := [.lit (.bool true)], args := [d] }
  | _ => none }
def chainStillRow : OpenClaim := { program := "ytkhjeeaojlaagaa", sum := "15294bcab2dcb2cc453966670c5e4c56e631843ac058b86991655efec33f383a", func := "stockyard/stockyardlaw27.ChainStill", spec := "chainStill", unfollowed := true, recurses := true, plainKeys := false, apart := false }
def ChainStillSaid : Prop := chainStillRow.holds Try.pinned (OpenSpec.ofChange chainStillSpec)

/-- ITS FALSE NEIGHBOUR: 'it returns false'. Refute it at one input. -/
def chainStillWrong : ChangeSpec := { name := "chainStill", fn := fun _ => fun
  | [d] => { results := [.lit (.bool false)], args := [d] }
  | _ => none }
def ChainStillWrongFalsely : Prop := chainStillRow.holds Try.pinned (OpenSpec.ofChange chainStillWrong)

/-- 'stockyardlaw27.ChainChecks': WHATEVER THE INPUT: true; the input reads as it did. -/
def chainChecksSpec : ChangeSpec := { name := "chainChecks", fn := fun _ => fun
  | [d1, d2] => { results := [.lit (.bool true)], args := [d1, d2] }
  | _ => none }
def chainChecksRow : OpenClaim := { program := "ytkhjeeaojlaagaa", sum := "15294bcab2dcb2cc453966670c5e4c56e631843ac058b86991655efec33f383a", func := "stockyard/stockyardlaw27.ChainChecks", spec := "chainChecks", unfollowed := true, recurses := true, plainKeys := false, apart := false }
def ChainChecksSaid : Prop := chainChecksRow.holds Try.pinned (OpenSpec.ofChange chainChecksSpec)

/-- ITS FALSE NEIGHBOUR: 'it returns false'. Refute it at one input. -/
def chainChecksWrong : ChangeSpec := { name := "chainChecks", fn := fun _ => fun
  | [d1, d2] => { results := [.lit (.bool false)], args := [d1, d2] }
  | _ => none }
def ChainChecksWrongFalsely : Prop := chainChecksRow.holds Try.pinned (OpenSpec.ofChange chainChecksWrong)

/- THE SECOND FORM. 'bulk': how many values and letters a reading holds, each counted each time it is reached (what is shared counts as often as it is met; a slice's spare places count too). A statement '..UptoSaid' is the law's where the arguments, and the package variables that the reading takes, are together of bulk at most 1048576: NARROWER than '..Said'. Prove '..Said' where nothing that the law and all that it calls make is longer than what came in: it says more and counts as full. Else prove '..UptoSaid'. A law counts once. -/
mutual
def uptoBulk {H : Type} : DataW H → Nat
  | .lit (.string bytes) => bytes.length + 1
  | .lit _ => 1
  | .nil => 1
  | .ptr d => uptoBulk d + 1
  | .slice elems spare => uptoBulkAll elems + uptoBulkAll spare + 1
  | .agg parts => uptoBulkAll parts + 1
  | .iface _ d => uptoBulk d + 1
  | .map entries => uptoBulkEntries entries + 1
  | .held _ => 1
def uptoBulkAll {H : Type} : List (DataW H) → Nat
  | [] => 0
  | d :: r => uptoBulk d + uptoBulkAll r
def uptoBulkEntries {H : Type} : List (Lit × DataW H) → Nat
  | [] => 0
  | x :: r => uptoBulkEntry x + uptoBulkEntries r
def uptoBulkEntry {H : Type} : Lit × DataW H → Nat
  | (.string bytes, d) => bytes.length + uptoBulk d + 1
  | (_, d) => uptoBulk d + 1
 end
def uptoSmall : (H : Type) → List (DataW H) → Bool := fun _ ds => decide (uptoBulkAll ds ≤ 1048576)
def OpenSpec.upto (s : _root_.Go.ChangeSpec) : _root_.Go.OpenSpec := { _root_.Go.OpenSpec.ofChange s with cond := some uptoSmall }

/-- 'stockyardlaw27.ChainAppends', WHERE WHAT IT READS IS OF BULK AT MOST 1048576: true; the input reads as it did. -/
def chainAppendsUptoRow : OpenClaim := { program := "ytkhjeeaojlaagaa", sum := "15294bcab2dcb2cc453966670c5e4c56e631843ac058b86991655efec33f383a", func := "stockyard/stockyardlaw27.ChainAppends", spec := "chainAppends", unfollowed := true, recurses := true, plainKeys := false, apart := false, narrowed := true }
def ChainAppendsUptoSaid : Prop := chainAppendsUptoRow.holds Try.pinned (OpenSpec.upto chainAppendsSpec)

/-- 'stockyardlaw27.ChainGets', WHERE WHAT IT READS IS OF BULK AT MOST 1048576: true; the input reads as it did. -/
def chainGetsUptoRow : OpenClaim := { program := "ytkhjeeaojlaagaa", sum := "15294bcab2dcb2cc453966670c5e4c56e631843ac058b86991655efec33f383a", func := "stockyard/stockyardlaw27.ChainGets", spec := "chainGets", unfollowed := true, recurses := true, plainKeys := false, apart := false, narrowed := true }
def ChainGetsUptoSaid : Prop := chainGetsUptoRow.holds Try.pinned (OpenSpec.upto chainGetsSpec)

/-- 'stockyardlaw27.ChainThrift', WHERE WHAT IT READS IS OF BULK AT MOST 1048576: true; the input reads as it did. -/
def chainThriftUptoRow : OpenClaim := { program := "ytkhjeeaojlaagaa", sum := "15294bcab2dcb2cc453966670c5e4c56e631843ac058b86991655efec33f383a", func := "stockyard/stockyardlaw27.ChainThrift", spec := "chainThrift", unfollowed := true, recurses := true, plainKeys := false, apart := false, narrowed := true }
def ChainThriftUptoSaid : Prop := chainThriftUptoRow.holds Try.pinned (OpenSpec.upto chainThriftSpec)

/-- 'stockyardlaw27.ChainDrops', WHERE WHAT IT READS IS OF BULK AT MOST 1048576: true; the input reads as it did. -/
def chainDropsUptoRow : OpenClaim := { program := "ytkhjeeaojlaagaa", sum := "15294bcab2dcb2cc453966670c5e4c56e631843ac058b86991655efec33f383a", func := "stockyard/stockyardlaw27.ChainDrops", spec := "chainDrops", unfollowed := true, recurses := true, plainKeys := false, apart := false, narrowed := true }
def ChainDropsUptoSaid : Prop := chainDropsUptoRow.holds Try.pinned (OpenSpec.upto chainDropsSpec)

/-- 'stockyardlaw27.ChainKeeps', WHERE WHAT IT READS IS OF BULK AT MOST 1048576: true; the input reads as it did. -/
def chainKeepsUptoRow : OpenClaim := { program := "ytkhjeeaojlaagaa", sum := "15294bcab2dcb2cc453966670c5e4c56e631843ac058b86991655efec33f383a", func := "stockyard/stockyardlaw27.ChainKeeps", spec := "chainKeeps", unfollowed := true, recurses := true, plainKeys := false, apart := false, narrowed := true }
def ChainKeepsUptoSaid : Prop := chainKeepsUptoRow.holds Try.pinned (OpenSpec.upto chainKeepsSpec)

/-- 'stockyardlaw27.ChainStill', WHERE WHAT IT READS IS OF BULK AT MOST 1048576: true; the input reads as it did. -/
def chainStillUptoRow : OpenClaim := { program := "ytkhjeeaojlaagaa", sum := "15294bcab2dcb2cc453966670c5e4c56e631843ac058b86991655efec33f383a", func := "stockyard/stockyardlaw27.ChainStill", spec := "chainStill", unfollowed := true, recurses := true, plainKeys := false, apart := false, narrowed := true }
def ChainStillUptoSaid : Prop := chainStillUptoRow.holds Try.pinned (OpenSpec.upto chainStillSpec)

/-- 'stockyardlaw27.ChainChecks', WHERE WHAT IT READS IS OF BULK AT MOST 1048576: true; the input reads as it did. -/
def chainChecksUptoRow : OpenClaim := { program := "ytkhjeeaojlaagaa", sum := "15294bcab2dcb2cc453966670c5e4c56e631843ac058b86991655efec33f383a", func := "stockyard/stockyardlaw27.ChainChecks", spec := "chainChecks", unfollowed := true, recurses := true, plainKeys := false, apart := false, narrowed := true }
def ChainChecksUptoSaid : Prop := chainChecksUptoRow.holds Try.pinned (OpenSpec.upto chainChecksSpec)

end Rows
end Go.Proofs.Ytkhjeeaojlaagaa
