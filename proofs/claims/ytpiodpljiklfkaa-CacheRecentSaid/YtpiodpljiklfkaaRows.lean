/-
  No cell of these rows narrows 'for every input' (looked for: loops, veiled, ifaces, maps, wideKeys, modest, calm, conditions, laid).
  DERIVED. THE GIVEN ROWS OF THIS SEAT. 9 by the template 'for every input the law returns true; each argument reads behind the call as it read before'; 0 by the template 'total and deterministic' (their statements: YtpiodpljiklfkaaTotals.lean).
  GIVEN WITH THE SEED: the statements are not yours to turn. If you find one false, say at which input.
  Laid BY PROGRAM, IN A SANDBOX (cutbox-rows.mjs): the forced cells as the released guide's own fill.sh prints them over the translation e900b1e5671cca30… (all of the seat's roots in one cut). By AI agents, Wed Nov 11 2026. No macro, syntax, notation, axiom, sorry.
-/
import Derived.Test.YtpiodpljiklfkaaChecked
import GoSem.Claim
import GoSem.ClaimJoined
import GoSem.ClaimMapViews
import Derived.JoinedTies
import Derived.KernelRfl
namespace Go.Proofs.Ytpiodpljiklfkaa
/- THE CELL 'sum', in the pinned program and in every row, IS THE sha256 OF THE DUMP (.gsa) THAT YtpiodpljiklfkaaProg.lean LOADS. Nothing in Lean hashes anything: it is a label: what it is worth is what the hold of that sum in a sandbox is worth. -/
noncomputable def Try.pinned : Pinned := { name := "ytpiodpljiklfkaa", sum := "e900b1e5671cca3046cafdc5e46ae8999e9fc47334eaf91d804ef226870f5657", checked := Try.checked }
namespace Rows
def none {H : Type} : Left H := { results := [], args := [] }

/-- 'stockyardlaw38.CacheRooms': WHATEVER THE INPUT: true; the input reads as it did. -/
def cacheRoomsSpec : ChangeSpec := { name := "cacheRooms", fn := fun _ => fun
  | [d] => { results := [.lit (.bool true)], args := [d] }
  | _ => none }
def cacheRoomsRow : OpenClaim := { program := "ytpiodpljiklfkaa", sum := "e900b1e5671cca3046cafdc5e46ae8999e9fc47334eaf91d804ef226870f5657", func := "stockyard/stockyardlaw38.CacheRooms", spec := "cacheRooms", plainKeys := false, apart := false }
def CacheRoomsSaid : Prop := cacheRoomsRow.holds Try.pinned (OpenSpec.ofChange cacheRoomsSpec)

/-- ITS FALSE NEIGHBOUR: 'it returns false'. Refute it at one input. -/
def cacheRoomsWrong : ChangeSpec := { name := "cacheRooms", fn := fun _ => fun
  | [d] => { results := [.lit (.bool false)], args := [d] }
  | _ => none }
def CacheRoomsWrongFalsely : Prop := cacheRoomsRow.holds Try.pinned (OpenSpec.ofChange cacheRoomsWrong)

/-- 'stockyardlaw38.CacheIncludes': WHATEVER THE INPUT: true; the input reads as it did. -/
def cacheIncludesSpec : ChangeSpec := { name := "cacheIncludes", fn := fun _ => fun
  | [d1, d2, d3, d4] => { results := [.lit (.bool true)], args := [d1, d2, d3, d4] }
  | _ => none }
def cacheIncludesRow : OpenClaim := { program := "ytpiodpljiklfkaa", sum := "e900b1e5671cca3046cafdc5e46ae8999e9fc47334eaf91d804ef226870f5657", func := "stockyard/stockyardlaw38.CacheIncludes", spec := "cacheIncludes", plainKeys := false, apart := false }
def CacheIncludesSaid : Prop := cacheIncludesRow.holds Try.pinned (OpenSpec.ofChange cacheIncludesSpec)

/-- ITS FALSE NEIGHBOUR: 'it returns false'. Refute it at one input. -/
def cacheIncludesWrong : ChangeSpec := { name := "cacheIncludes", fn := fun _ => fun
  | [d1, d2, d3, d4] => { results := [.lit (.bool false)], args := [d1, d2, d3, d4] }
  | _ => none }
def CacheIncludesWrongFalsely : Prop := cacheIncludesRow.holds Try.pinned (OpenSpec.ofChange cacheIncludesWrong)

/-- 'stockyardlaw38.CachePins': WHATEVER THE INPUT: true; the input reads as it did. -/
def cachePinsSpec : ChangeSpec := { name := "cachePins", fn := fun _ => fun
  | [d1, d2] => { results := [.lit (.bool true)], args := [d1, d2] }
  | _ => none }
def cachePinsRow : OpenClaim := { program := "ytpiodpljiklfkaa", sum := "e900b1e5671cca3046cafdc5e46ae8999e9fc47334eaf91d804ef226870f5657", func := "stockyard/stockyardlaw38.CachePins", spec := "cachePins", plainKeys := false, apart := false }
def CachePinsSaid : Prop := cachePinsRow.holds Try.pinned (OpenSpec.ofChange cachePinsSpec)

/-- ITS FALSE NEIGHBOUR: 'it returns false'. Refute it at one input. -/
def cachePinsWrong : ChangeSpec := { name := "cachePins", fn := fun _ => fun
  | [d1, d2] => { results := [.lit (.bool false)], args := [d1, d2] }
  | _ => none }
def CachePinsWrongFalsely : Prop := cachePinsRow.holds Try.pinned (OpenSpec.ofChange cachePinsWrong)

/-- 'stockyardlaw38.CacheTrue': WHATEVER THE INPUT: true; the input reads as it did. -/
def cacheTrueSpec : ChangeSpec := { name := "cacheTrue", fn := fun _ => fun
  | [d1, d2, d3] => { results := [.lit (.bool true)], args := [d1, d2, d3] }
  | _ => none }
def cacheTrueRow : OpenClaim := { program := "ytpiodpljiklfkaa", sum := "e900b1e5671cca3046cafdc5e46ae8999e9fc47334eaf91d804ef226870f5657", func := "stockyard/stockyardlaw38.CacheTrue", spec := "cacheTrue", plainKeys := false, apart := false }
def CacheTrueSaid : Prop := cacheTrueRow.holds Try.pinned (OpenSpec.ofChange cacheTrueSpec)

/-- ITS FALSE NEIGHBOUR: 'it returns false'. Refute it at one input. -/
def cacheTrueWrong : ChangeSpec := { name := "cacheTrue", fn := fun _ => fun
  | [d1, d2, d3] => { results := [.lit (.bool false)], args := [d1, d2, d3] }
  | _ => none }
def CacheTrueWrongFalsely : Prop := cacheTrueRow.holds Try.pinned (OpenSpec.ofChange cacheTrueWrong)

/-- 'stockyardlaw38.CacheContents': WHATEVER THE INPUT: true; the input reads as it did. -/
def cacheContentsSpec : ChangeSpec := { name := "cacheContents", fn := fun _ => fun
  | [d] => { results := [.lit (.bool true)], args := [d] }
  | _ => none }
def cacheContentsRow : OpenClaim := { program := "ytpiodpljiklfkaa", sum := "e900b1e5671cca3046cafdc5e46ae8999e9fc47334eaf91d804ef226870f5657", func := "stockyard/stockyardlaw38.CacheContents", spec := "cacheContents", plainKeys := false, apart := false }
def CacheContentsSaid : Prop := cacheContentsRow.holds Try.pinned (OpenSpec.ofChange cacheContentsSpec)

/-- ITS FALSE NEIGHBOUR: 'it returns false'. Refute it at one input. -/
def cacheContentsWrong : ChangeSpec := { name := "cacheContents", fn := fun _ => fun
  | [d] => { results := [.lit (.bool false)], args := [d] }
  | _ => none }
def CacheContentsWrongFalsely : Prop := cacheContentsRow.holds Try.pinned (OpenSpec.ofChange cacheContentsWrong)

/-- 'stockyardlaw38.CachePlays': WHATEVER THE INPUT: true; the input reads as it did. -/
def cachePlaysSpec : ChangeSpec := { name := "cachePlays", fn := fun _ => fun
  | [d] => { results := [.lit (.bool true)], args := [d] }
  | _ => none }
def cachePlaysRow : OpenClaim := { program := "ytpiodpljiklfkaa", sum := "e900b1e5671cca3046cafdc5e46ae8999e9fc47334eaf91d804ef226870f5657", func := "stockyard/stockyardlaw38.CachePlays", spec := "cachePlays", plainKeys := false, apart := false }
def CachePlaysSaid : Prop := cachePlaysRow.holds Try.pinned (OpenSpec.ofChange cachePlaysSpec)

/-- ITS FALSE NEIGHBOUR: 'it returns false'. Refute it at one input. -/
def cachePlaysWrong : ChangeSpec := { name := "cachePlays", fn := fun _ => fun
  | [d] => { results := [.lit (.bool false)], args := [d] }
  | _ => none }
def CachePlaysWrongFalsely : Prop := cachePlaysRow.holds Try.pinned (OpenSpec.ofChange cachePlaysWrong)

/-- 'stockyardlaw38.CacheBounds': WHATEVER THE INPUT: true; the input reads as it did. -/
def cacheBoundsSpec : ChangeSpec := { name := "cacheBounds", fn := fun _ => fun
  | [d1, d2] => { results := [.lit (.bool true)], args := [d1, d2] }
  | _ => none }
def cacheBoundsRow : OpenClaim := { program := "ytpiodpljiklfkaa", sum := "e900b1e5671cca3046cafdc5e46ae8999e9fc47334eaf91d804ef226870f5657", func := "stockyard/stockyardlaw38.CacheBounds", spec := "cacheBounds", plainKeys := false, apart := false }
def CacheBoundsSaid : Prop := cacheBoundsRow.holds Try.pinned (OpenSpec.ofChange cacheBoundsSpec)

/-- ITS FALSE NEIGHBOUR: 'it returns false'. Refute it at one input. -/
def cacheBoundsWrong : ChangeSpec := { name := "cacheBounds", fn := fun _ => fun
  | [d1, d2] => { results := [.lit (.bool false)], args := [d1, d2] }
  | _ => none }
def CacheBoundsWrongFalsely : Prop := cacheBoundsRow.holds Try.pinned (OpenSpec.ofChange cacheBoundsWrong)

/-- 'stockyardlaw38.CacheRecent': WHATEVER THE INPUT: true; the input reads as it did. -/
def cacheRecentSpec : ChangeSpec := { name := "cacheRecent", fn := fun _ => fun
  | [d] => { results := [.lit (.bool true)], args := [d] }
  | _ => none }
def cacheRecentRow : OpenClaim := { program := "ytpiodpljiklfkaa", sum := "e900b1e5671cca3046cafdc5e46ae8999e9fc47334eaf91d804ef226870f5657", func := "stockyard/stockyardlaw38.CacheRecent", spec := "cacheRecent", plainKeys := false, apart := false }
def CacheRecentSaid : Prop := cacheRecentRow.holds Try.pinned (OpenSpec.ofChange cacheRecentSpec)

/-- ITS FALSE NEIGHBOUR: 'it returns false'. Refute it at one input. -/
def cacheRecentWrong : ChangeSpec := { name := "cacheRecent", fn := fun _ => fun
  | [d] => { results := [.lit (.bool false)], args := [d] }
  | _ => none }
def CacheRecentWrongFalsely : Prop := cacheRecentRow.holds Try.pinned (OpenSpec.ofChange cacheRecentWrong)

/-- 'stockyardlaw38.CacheCopies': WHATEVER THE INPUT: true; the input reads as it did. -/
def cacheCopiesSpec : ChangeSpec := { name := "cacheCopies", fn := fun _ => fun
  | [d] => { results := [.lit (.bool true)], args := [d] }
  | _ => none }
def cacheCopiesRow : OpenClaim := { program := "ytpiodpljiklfkaa", sum := "e900b1e5671cca3046cafdc5e46ae8999e9fc47334eaf91d804ef226870f5657", func := "stockyard/stockyardlaw38.CacheCopies", spec := "cacheCopies", plainKeys := false, apart := false }
def CacheCopiesSaid : Prop := cacheCopiesRow.holds Try.pinned (OpenSpec.ofChange cacheCopiesSpec)

/-- ITS FALSE NEIGHBOUR: 'it returns false'. Refute it at one input. -/
def cacheCopiesWrong : ChangeSpec := { name := "cacheCopies", fn := fun _ => fun
  | [d] => { results := [.lit (.bool false)], args := [d] }
  | _ => none }
def CacheCopiesWrongFalsely : Prop := cacheCopiesRow.holds Try.pinned (OpenSpec.ofChange cacheCopiesWrong)

/- THE SECOND FORM. 'bulk': how many values and letters a reading holds, each counted each time it is reached (what is shared counts as often as it is met; a slice's spare places count too). A statement '..UptoSaid' is the law's where the arguments, and the package variables that the reading takes, are together of bulk at most 1048576: NARROWER than '..Said'. Prove '..Said' where nothing that the law and all that it calls make is longer than what came in: it says more and counts as full. Else prove '..UptoSaid'. A law counts once. -/
mutual
def uptoBulk {H : Type} : DataW H → Nat
  | .lit (.string bytes) => bytes.length + 1
  | .lit _ => 1
  | .nil => 1
  | .ptr d => uptoBulk d + 1
  | .slice elems spare => uptoBulkAll elems + uptoBulkAll spare + 1
  | .agg parts => uptoBulkAll parts + 1
  | .iface _ d => uptoBulk d + 1
  | .map entries => uptoBulkEntries entries + 1
  | .held _ => 1
def uptoBulkAll {H : Type} : List (DataW H) → Nat
  | [] => 0
  | d :: r => uptoBulk d + uptoBulkAll r
def uptoBulkEntries {H : Type} : List (Lit × DataW H) → Nat
  | [] => 0
  | x :: r => uptoBulkEntry x + uptoBulkEntries r
def uptoBulkEntry {H : Type} : Lit × DataW H → Nat
  | (.string bytes, d) => bytes.length + uptoBulk d + 1
  | (_, d) => uptoBulk d + 1
 end
def uptoSmall : (H : Type) → List (DataW H) → Bool := fun _ ds => decide (uptoBulkAll ds ≤ 1048576)
def OpenSpec.upto (s : _root_.Go.ChangeSpec) : _root_.Go.OpenSpec := { _root_.Go.OpenSpec.ofChange s with cond := some uptoSmall }

/-- 'stockyardlaw38.CacheRooms', WHERE WHAT IT READS IS OF BULK AT MOST 1048576: true; the input reads as it did. -/
def cacheRoomsUptoRow : OpenClaim := { program := "ytpiodpljiklfkaa", sum := "e900b1e5671cca3046cafdc5e46ae8999e9fc47334eaf91d804ef226870f5657", func := "stockyard/stockyardlaw38.CacheRooms", spec := "cacheRooms", plainKeys := false, apart := false, narrowed := true }
def CacheRoomsUptoSaid : Prop := cacheRoomsUptoRow.holds Try.pinned (OpenSpec.upto cacheRoomsSpec)

/-- 'stockyardlaw38.CacheIncludes', WHERE WHAT IT READS IS OF BULK AT MOST 1048576: true; the input reads as it did. -/
def cacheIncludesUptoRow : OpenClaim := { program := "ytpiodpljiklfkaa", sum := "e900b1e5671cca3046cafdc5e46ae8999e9fc47334eaf91d804ef226870f5657", func := "stockyard/stockyardlaw38.CacheIncludes", spec := "cacheIncludes", plainKeys := false, apart := false, narrowed := true }
def CacheIncludesUptoSaid : Prop := cacheIncludesUptoRow.holds Try.pinned (OpenSpec.upto cacheIncludesSpec)

/-- 'stockyardlaw38.CachePins', WHERE WHAT IT READS IS OF BULK AT MOST 1048576: true; the input reads as it did. -/
def cachePinsUptoRow : OpenClaim := { program := "ytpiodpljiklfkaa", sum := "e900b1e5671cca3046cafdc5e46ae8999e9fc47334eaf91d804ef226870f5657", func := "stockyard/stockyardlaw38.CachePins", spec := "cachePins", plainKeys := false, apart := false, narrowed := true }
def CachePinsUptoSaid : Prop := cachePinsUptoRow.holds Try.pinned (OpenSpec.upto cachePinsSpec)

/-- 'stockyardlaw38.CacheTrue', WHERE WHAT IT READS IS OF BULK AT MOST 1048576: true; the input reads as it did. -/
def cacheTrueUptoRow : OpenClaim := { program := "ytpiodpljiklfkaa", sum := "e900b1e5671cca3046cafdc5e46ae8999e9fc47334eaf91d804ef226870f5657", func := "stockyard/stockyardlaw38.CacheTrue", spec := "cacheTrue", plainKeys := false, apart := false, narrowed := true }
def CacheTrueUptoSaid : Prop := cacheTrueUptoRow.holds Try.pinned (OpenSpec.upto cacheTrueSpec)

/-- 'stockyardlaw38.CacheContents', WHERE WHAT IT READS IS OF BULK AT MOST 1048576: true; the input reads as it did. -/
def cacheContentsUptoRow : OpenClaim := { program := "ytpiodpljiklfkaa", sum := "e900b1e5671cca3046cafdc5e46ae8999e9fc47334eaf91d804ef226870f5657", func := "stockyard/stockyardlaw38.CacheContents", spec := "cacheContents", plainKeys := false, apart := false, narrowed := true }
def CacheContentsUptoSaid : Prop := cacheContentsUptoRow.holds Try.pinned (OpenSpec.upto cacheContentsSpec)

/-- 'stockyardlaw38.CachePlays', WHERE WHAT IT READS IS OF BULK AT MOST 1048576: true; the input reads as it did. -/
def cachePlaysUptoRow : OpenClaim := { program := "ytpiodpljiklfkaa", sum := "e900b1e5671cca3046cafdc5e46ae8999e9fc47334eaf91d804ef226870f5657", func := "stockyard/stockyardlaw38.CachePlays", spec := "cachePlays", plainKeys := false, apart := false, narrowed := true }
def CachePlaysUptoSaid : Prop := cachePlaysUptoRow.holds Try.pinned (OpenSpec.upto cachePlaysSpec)

/-- 'stockyardlaw38.CacheBounds', WHERE WHAT IT READS IS OF BULK AT MOST 1048576: true; the input reads as it did. -/
def cacheBoundsUptoRow : OpenClaim := { program := "ytpiodpljiklfkaa", sum := "e900b1e5671cca3046cafdc5e46ae8999e9fc47334eaf91d804ef226870f5657", func := "stockyard/stockyardlaw38.CacheBounds", spec := "cacheBounds", plainKeys := false, apart := false, narrowed := true }
def CacheBoundsUptoSaid : Prop := cacheBoundsUptoRow.holds Try.pinned (OpenSpec.upto cacheBoundsSpec)

/-- 'stockyardlaw38.CacheRecent', WHERE WHAT IT READS IS OF BULK AT MOST 1048576: true; the input reads as it did. -/
def cacheRecentUptoRow : OpenClaim := { program := "ytpiodpljiklfkaa", sum := "e900b1e5671cca3046cafdc5e46ae8999e9fc47334eaf91d804ef226870f5657", func := "stockyard/stockyardlaw38.CacheRecent", spec := "cacheRecent", plainKeys := false, apart := false, narrowed := true }
def CacheRecentUptoSaid : Prop := cacheRecentUptoRow.holds Try.pinned (OpenSpec.upto cacheRecentSpec)

/-- 'stockyardlaw38.CacheCopies', WHERE WHAT IT READS IS OF BULK AT MOST 1048576: true; the input reads as it did. -/
def cacheCopiesUptoRow : OpenClaim := { program := "ytpiodpljiklfkaa", sum := "e900b1e5671cca3046cafdc5e46ae8999e9fc47334eaf91d804ef226870f5657", func := "stockyard/stockyardlaw38.CacheCopies", spec := "cacheCopies", plainKeys := false, apart := false, narrowed := true }
def CacheCopiesUptoSaid : Prop := cacheCopiesUptoRow.holds Try.pinned (OpenSpec.upto cacheCopiesSpec)

end Rows
end Go.Proofs.Ytpiodpljiklfkaa
