/-
  No cell of these rows narrows 'for every input' (looked for: loops, veiled, ifaces, maps, wideKeys, modest, calm, conditions, laid).
  DERIVED. THE GIVEN ROWS OF THIS SEAT. 8 by the template 'for every input the law returns true; each argument reads behind the call as it read before'; 0 by the template 'total and deterministic' (their statements: YtncdcpaelecikaaTotals.lean).
  GIVEN WITH THE SEED: the statements are not yours to turn. If you find one false, say at which input.
  Laid BY PROGRAM, IN A SANDBOX (cutbox-rows.mjs): the forced cells as the released guide's own fill.sh prints them over the translation 2cbca97c0da1f6e1… (all of the seat's roots in one cut). By AI agents, Wed Nov 11 2026. No macro, syntax, notation, axiom, sorry.
-/
import Derived.Test.YtncdcpaelecikaaChecked
import GoSem.Claim
import GoSem.ClaimJoined
import GoSem.ClaimMapViews
import Derived.JoinedTies
import Derived.KernelRfl
namespace Go.Proofs.Ytncdcpaelecikaa
/- THE CELL 'sum', in the pinned program and in every row, IS THE sha256 OF THE DUMP (.gsa) THAT YtncdcpaelecikaaProg.lean LOADS. Nothing in Lean hashes anything: it is a label: what it is worth is what the hold of that sum in a sandbox is worth. -/
noncomputable def Try.pinned : Pinned := { name := "ytncdcpaelecikaa", sum := "2cbca97c0da1f6e14c4d019dc37f81f770d287fceee0fc14128c08d246c938ae", checked := Try.checked }
namespace Rows
def none {H : Type} : Left H := { results := [], args := [] }

/-- 'stockyardlaw29.PackEncodes': WHATEVER THE INPUT: true; the input reads as it did. -/
def packEncodesSpec : ChangeSpec := { name := "packEncodes", fn := fun _ => fun
  | [d1, d2] => { results := [.lit (.bool true)], args := [d1, d2] }
  | _ => none }
def packEncodesRow : OpenClaim := { program := "ytncdcpaelecikaa", sum := "2cbca97c0da1f6e14c4d019dc37f81f770d287fceee0fc14128c08d246c938ae", func := "stockyard/stockyardlaw29.PackEncodes", spec := "packEncodes", recurses := true, apart := false }
def PackEncodesSaid : Prop := packEncodesRow.holds Try.pinned (OpenSpec.ofChange packEncodesSpec)

/-- ITS FALSE NEIGHBOUR: 'it returns false'. Refute it at one input. -/
def packEncodesWrong : ChangeSpec := { name := "packEncodes", fn := fun _ => fun
  | [d1, d2] => { results := [.lit (.bool false)], args := [d1, d2] }
  | _ => none }
def PackEncodesWrongFalsely : Prop := packEncodesRow.holds Try.pinned (OpenSpec.ofChange packEncodesWrong)

/-- 'stockyardlaw29.PackSalvages': WHATEVER THE INPUT: true; the input reads as it did. -/
def packSalvagesSpec : ChangeSpec := { name := "packSalvages", fn := fun _ => fun
  | [d1, d2] => { results := [.lit (.bool true)], args := [d1, d2] }
  | _ => none }
def packSalvagesRow : OpenClaim := { program := "ytncdcpaelecikaa", sum := "2cbca97c0da1f6e14c4d019dc37f81f770d287fceee0fc14128c08d246c938ae", func := "stockyard/stockyardlaw29.PackSalvages", spec := "packSalvages", recurses := true, apart := false }
def PackSalvagesSaid : Prop := packSalvagesRow.holds Try.pinned (OpenSpec.ofChange packSalvagesSpec)

/-- ITS FALSE NEIGHBOUR: 'it returns false'. Refute it at one input. -/
def packSalvagesWrong : ChangeSpec := { name := "packSalvages", fn := fun _ => fun
  | [d1, d2] => { results := [.lit (.bool false)], args := [d1, d2] }
  | _ => none }
def PackSalvagesWrongFalsely : Prop := packSalvagesRow.holds Try.pinned (OpenSpec.ofChange packSalvagesWrong)

/-- 'stockyardlaw29.PackCut': WHATEVER THE INPUT: true; the input reads as it did. -/
def packCutSpec : ChangeSpec := { name := "packCut", fn := fun _ => fun
  | [d] => { results := [.lit (.bool true)], args := [d] }
  | _ => none }
def packCutRow : OpenClaim := { program := "ytncdcpaelecikaa", sum := "2cbca97c0da1f6e14c4d019dc37f81f770d287fceee0fc14128c08d246c938ae", func := "stockyard/stockyardlaw29.PackCut", spec := "packCut", recurses := true, apart := false }
def PackCutSaid : Prop := packCutRow.holds Try.pinned (OpenSpec.ofChange packCutSpec)

/-- ITS FALSE NEIGHBOUR: 'it returns false'. Refute it at one input. -/
def packCutWrong : ChangeSpec := { name := "packCut", fn := fun _ => fun
  | [d] => { results := [.lit (.bool false)], args := [d] }
  | _ => none }
def PackCutWrongFalsely : Prop := packCutRow.holds Try.pinned (OpenSpec.ofChange packCutWrong)

/-- 'stockyardlaw29.PackDecodes': WHATEVER THE INPUT: true; the input reads as it did. -/
def packDecodesSpec : ChangeSpec := { name := "packDecodes", fn := fun _ => fun
  | [d1, d2] => { results := [.lit (.bool true)], args := [d1, d2] }
  | _ => none }
def packDecodesRow : OpenClaim := { program := "ytncdcpaelecikaa", sum := "2cbca97c0da1f6e14c4d019dc37f81f770d287fceee0fc14128c08d246c938ae", func := "stockyard/stockyardlaw29.PackDecodes", spec := "packDecodes", recurses := true, apart := false }
def PackDecodesSaid : Prop := packDecodesRow.holds Try.pinned (OpenSpec.ofChange packDecodesSpec)

/-- ITS FALSE NEIGHBOUR: 'it returns false'. Refute it at one input. -/
def packDecodesWrong : ChangeSpec := { name := "packDecodes", fn := fun _ => fun
  | [d1, d2] => { results := [.lit (.bool false)], args := [d1, d2] }
  | _ => none }
def PackDecodesWrongFalsely : Prop := packDecodesRow.holds Try.pinned (OpenSpec.ofChange packDecodesWrong)

/-- 'stockyardlaw29.PackDamage': WHATEVER THE INPUT: true; the input reads as it did. -/
def packDamageSpec : ChangeSpec := { name := "packDamage", fn := fun _ => fun
  | [d1, d2] => { results := [.lit (.bool true)], args := [d1, d2] }
  | _ => none }
def packDamageRow : OpenClaim := { program := "ytncdcpaelecikaa", sum := "2cbca97c0da1f6e14c4d019dc37f81f770d287fceee0fc14128c08d246c938ae", func := "stockyard/stockyardlaw29.PackDamage", spec := "packDamage", recurses := true, apart := false }
def PackDamageSaid : Prop := packDamageRow.holds Try.pinned (OpenSpec.ofChange packDamageSpec)

/-- ITS FALSE NEIGHBOUR: 'it returns false'. Refute it at one input. -/
def packDamageWrong : ChangeSpec := { name := "packDamage", fn := fun _ => fun
  | [d1, d2] => { results := [.lit (.bool false)], args := [d1, d2] }
  | _ => none }
def PackDamageWrongFalsely : Prop := packDamageRow.holds Try.pinned (OpenSpec.ofChange packDamageWrong)

/-- 'stockyardlaw29.PackTrue': WHATEVER THE INPUT: true; the input reads as it did. -/
def packTrueSpec : ChangeSpec := { name := "packTrue", fn := fun _ => fun
  | [d1, d2] => { results := [.lit (.bool true)], args := [d1, d2] }
  | _ => none }
def packTrueRow : OpenClaim := { program := "ytncdcpaelecikaa", sum := "2cbca97c0da1f6e14c4d019dc37f81f770d287fceee0fc14128c08d246c938ae", func := "stockyard/stockyardlaw29.PackTrue", spec := "packTrue", recurses := true, apart := false }
def PackTrueSaid : Prop := packTrueRow.holds Try.pinned (OpenSpec.ofChange packTrueSpec)

/-- ITS FALSE NEIGHBOUR: 'it returns false'. Refute it at one input. -/
def packTrueWrong : ChangeSpec := { name := "packTrue", fn := fun _ => fun
  | [d1, d2] => { results := [.lit (.bool false)], args := [d1, d2] }
  | _ => none }
def PackTrueWrongFalsely : Prop := packTrueRow.holds Try.pinned (OpenSpec.ofChange packTrueWrong)

/-- 'stockyardlaw29.PackBack': WHATEVER THE INPUT: true; the input reads as it did. -/
def packBackSpec : ChangeSpec := { name := "packBack", fn := fun _ => fun
  | [d] => { results := [.lit (.bool true)], args := [d] }
  | _ => none }
def packBackRow : OpenClaim := { program := "ytncdcpaelecikaa", sum := "2cbca97c0da1f6e14c4d019dc37f81f770d287fceee0fc14128c08d246c938ae", func := "stockyard/stockyardlaw29.PackBack", spec := "packBack", unfollowed := true, recurses := true, apart := false }
def PackBackSaid : Prop := packBackRow.holds Try.pinned (OpenSpec.ofChange packBackSpec)

/-- ITS FALSE NEIGHBOUR: 'it returns false'. Refute it at one input. -/
def packBackWrong : ChangeSpec := { name := "packBack", fn := fun _ => fun
  | [d] => { results := [.lit (.bool false)], args := [d] }
  | _ => none }
def PackBackWrongFalsely : Prop := packBackRow.holds Try.pinned (OpenSpec.ofChange packBackWrong)

/-- 'stockyardlaw29.PackFinds': WHATEVER THE INPUT: true; the input reads as it did. -/
def packFindsSpec : ChangeSpec := { name := "packFinds", fn := fun _ => fun
  | [d1, d2] => { results := [.lit (.bool true)], args := [d1, d2] }
  | _ => none }
def packFindsRow : OpenClaim := { program := "ytncdcpaelecikaa", sum := "2cbca97c0da1f6e14c4d019dc37f81f770d287fceee0fc14128c08d246c938ae", func := "stockyard/stockyardlaw29.PackFinds", spec := "packFinds", unfollowed := true, recurses := true, apart := false }
def PackFindsSaid : Prop := packFindsRow.holds Try.pinned (OpenSpec.ofChange packFindsSpec)

/-- ITS FALSE NEIGHBOUR: 'it returns false'. Refute it at one input. -/
def packFindsWrong : ChangeSpec := { name := "packFinds", fn := fun _ => fun
  | [d1, d2] => { results := [.lit (.bool false)], args := [d1, d2] }
  | _ => none }
def PackFindsWrongFalsely : Prop := packFindsRow.holds Try.pinned (OpenSpec.ofChange packFindsWrong)

/- THE SECOND FORM. 'bulk': how many values and letters a reading holds, each counted each time it is reached (what is shared counts as often as it is met; a slice's spare places count too). A statement '..UptoSaid' is the law's where the arguments, and the package variables that the reading takes, are together of bulk at most 1048576: NARROWER than '..Said'. Prove '..Said' where nothing that the law and all that it calls make is longer than what came in: it says more and counts as full. Else prove '..UptoSaid'. A law counts once. -/
mutual
def uptoBulk {H : Type} : DataW H → Nat
  | .lit (.string bytes) => bytes.length + 1
  | .lit _ => 1
  | .nil => 1
  | .ptr d => uptoBulk d + 1
  | .slice elems spare => uptoBulkAll elems + uptoBulkAll spare + 1
  | .agg parts => uptoBulkAll parts + 1
  | .iface _ d => uptoBulk d + 1
  | .map entries => uptoBulkEntries entries + 1
  | .held _ => 1
def uptoBulkAll {H : Type} : List (DataW H) → Nat
  | [] => 0
  | d :: r => uptoBulk d + uptoBulkAll r
def uptoBulkEntries {H : Type} : List (Lit × DataW H) → Nat
  | [] => 0
  | x :: r => uptoBulkEntry x + uptoBulkEntries r
def uptoBulkEntry {H : Type} : Lit × DataW H → Nat
  | (.string bytes, d) => bytes.length + uptoBulk d + 1
  | (_, d) => uptoBulk d + 1
 end
def uptoSmall : (H : Type) → List (DataW H) → Bool := fun _ ds => decide (uptoBulkAll ds ≤ 1048576)
def OpenSpec.upto (s : _root_.Go.ChangeSpec) : _root_.Go.OpenSpec := { _root_.Go.OpenSpec.ofChange s with cond := some uptoSmall }

/-- 'stockyardlaw29.PackEncodes', WHERE WHAT IT READS IS OF BULK AT MOST 1048576: true; the input reads as it did. -/
def packEncodesUptoRow : OpenClaim := { program := "ytncdcpaelecikaa", sum := "2cbca97c0da1f6e14c4d019dc37f81f770d287fceee0fc14128c08d246c938ae", func := "stockyard/stockyardlaw29.PackEncodes", spec := "packEncodes", recurses := true, apart := false, narrowed := true }
def PackEncodesUptoSaid : Prop := packEncodesUptoRow.holds Try.pinned (OpenSpec.upto packEncodesSpec)

/-- 'stockyardlaw29.PackSalvages', WHERE WHAT IT READS IS OF BULK AT MOST 1048576: true; the input reads as it did. -/
def packSalvagesUptoRow : OpenClaim := { program := "ytncdcpaelecikaa", sum := "2cbca97c0da1f6e14c4d019dc37f81f770d287fceee0fc14128c08d246c938ae", func := "stockyard/stockyardlaw29.PackSalvages", spec := "packSalvages", recurses := true, apart := false, narrowed := true }
def PackSalvagesUptoSaid : Prop := packSalvagesUptoRow.holds Try.pinned (OpenSpec.upto packSalvagesSpec)

/-- 'stockyardlaw29.PackCut', WHERE WHAT IT READS IS OF BULK AT MOST 1048576: true; the input reads as it did. -/
def packCutUptoRow : OpenClaim := { program := "ytncdcpaelecikaa", sum := "2cbca97c0da1f6e14c4d019dc37f81f770d287fceee0fc14128c08d246c938ae", func := "stockyard/stockyardlaw29.PackCut", spec := "packCut", recurses := true, apart := false, narrowed := true }
def PackCutUptoSaid : Prop := packCutUptoRow.holds Try.pinned (OpenSpec.upto packCutSpec)

/-- 'stockyardlaw29.PackDecodes', WHERE WHAT IT READS IS OF BULK AT MOST 1048576: true; the input reads as it did. -/
def packDecodesUptoRow : OpenClaim := { program := "ytncdcpaelecikaa", sum := "2cbca97c0da1f6e14c4d019dc37f81f770d287fceee0fc14128c08d246c938ae", func := "stockyard/stockyardlaw29.PackDecodes", spec := "packDecodes", recurses := true, apart := false, narrowed := true }
def PackDecodesUptoSaid : Prop := packDecodesUptoRow.holds Try.pinned (OpenSpec.upto packDecodesSpec)

/-- 'stockyardlaw29.PackDamage', WHERE WHAT IT READS IS OF BULK AT MOST 1048576: true; the input reads as it did. -/
def packDamageUptoRow : OpenClaim := { program := "ytncdcpaelecikaa", sum := "2cbca97c0da1f6e14c4d019dc37f81f770d287fceee0fc14128c08d246c938ae", func := "stockyard/stockyardlaw29.PackDamage", spec := "packDamage", recurses := true, apart := false, narrowed := true }
def PackDamageUptoSaid : Prop := packDamageUptoRow.holds Try.pinned (OpenSpec.upto packDamageSpec)

/-- 'stockyardlaw29.PackTrue', WHERE WHAT IT READS IS OF BULK AT MOST 1048576: true; the input reads as it did. -/
def packTrueUptoRow : OpenClaim := { program := "ytncdcpaelecikaa", sum := "2cbca97c0da1f6e14c4d019dc37f81f770d287fceee0fc14128c08d246c938ae", func := "stockyard/stockyardlaw29.PackTrue", spec := "packTrue", recurses := true, apart := false, narrowed := true }
def PackTrueUptoSaid : Prop := packTrueUptoRow.holds Try.pinned (OpenSpec.upto packTrueSpec)

/-- 'stockyardlaw29.PackBack', WHERE WHAT IT READS IS OF BULK AT MOST 1048576: true; the input reads as it did. -/
def packBackUptoRow : OpenClaim := { program := "ytncdcpaelecikaa", sum := "2cbca97c0da1f6e14c4d019dc37f81f770d287fceee0fc14128c08d246c938ae", func := "stockyard/stockyardlaw29.PackBack", spec := "packBack", unfollowed := true, recurses := true, apart := false, narrowed := true }
def PackBackUptoSaid : Prop := packBackUptoRow.holds Try.pinned (OpenSpec.upto packBackSpec)

/-- 'stockyardlaw29.PackFinds', WHERE WHAT IT READS IS OF BULK AT MOST 1048576: true; the input reads as it did. -/
def packFindsUptoRow : OpenClaim := { program := "ytncdcpaelecikaa", sum := "2cbca97c0da1f6e14c4d019dc37f81f770d287fceee0fc14128c08d246c938ae", func := "stockyard/stockyardlaw29.PackFinds", spec := "packFinds", unfollowed := true, recurses := true, apart := false, narrowed := true }
def PackFindsUptoSaid : Prop := packFindsUptoRow.holds Try.pinned (OpenSpec.upto packFindsSpec)

end Rows
end Go.Proofs.Ytncdcpaelecikaa
