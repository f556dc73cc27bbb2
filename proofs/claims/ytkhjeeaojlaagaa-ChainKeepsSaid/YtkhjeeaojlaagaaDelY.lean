/-
  Cost, the program's.
-/
import Derived.Test.YtkhjeeaojlaagaaDelK
import Derived.Test.YtkhjeeaojlaagaaMathK
import Derived.Test.YtkhjeeaojlaagaaLen
namespace Go.Proofs.Ytkhjeeaojlaagaa
open Go.RowKit

open RowKit in
theorem wrap_add (a b : Int) : wrap64 (wrap64 a + b) = wrap64 (a + b) := by unfold wrap64; omega
/-- What is summed ahead of op j. -/
def costTo (L : List Od) (j : Nat) : Nat := (enc L.length).length + (encOps ((L.take j).map Od.d)).length
theorem costTo_step {L : List Od} {j : Nat} {k : Od} (hk : L[j]? = some k) : costTo L (j + 1) = costTo L j + k.d.enc.length := by
  unfold costTo
  rw [take_map_succ hk, encOps_append, encOps_one, List.length_append]
  omega
theorem costTo_all (L : List Od) : costTo L L.length = (encD (L.map Od.d)).length := by
  unfold costTo encD
  rw [List.take_of_length_le (Nat.le_refl _), List.length_append, List.length_map]
def CoRel (w : World) (L : List Od) (s i : Value) (wr : World) : Prop :=
  ∃ j : Nat, i = .int .i64 j ∧ s = .int .i64 (RowKit.wrap64 (costTo L j : Int)) ∧ j ≤ L.length ∧ ((L.take j).map Od.d).all fineB = true ∧ Ext w wr

end Go.Proofs.Ytkhjeeaojlaagaa
