/-
  Normalize, the program's and the reference's.
-/
import Derived.Test.YtkhjeeaojlaagaaDelJ
import Derived.Test.YtkhjeeaojlaagaaDelF
import Derived.Test.YtkhjeeaojlaagaaDelK
namespace Go.Proofs.Ytkhjeeaojlaagaa
open Go.RowKit

def nrRes (base : Int) (os : List Dp) : List Dp × Int := if (ckRes base os).2 = 0 then (normD os, 0) else ([], (ckRes base os).2)
theorem norm_snoc {L : List Od} {j : Nat} {k : Od} (hk : L[j]? = some k) : normD ((L.take (j + 1)).map Od.d) = addD (normD ((L.take j).map Od.d)) k.d := by
  rw [take_map_succ hk]; unfold normD; rw [List.foldl_append]; rfl
theorem size_take {L : List Od} {j : Nat} {k : Od} (hk : L[j]? = some k) : sizeD ((L.take (j + 1)).map Od.d) = sizeD ((L.take j).map Od.d) + k.d.size := by
  rw [take_map_succ hk]; simp [sizeD]
theorem sizeD_app (A B : List Dp) : sizeD (A ++ B) = sizeD A + sizeD B := by simp [sizeD]
theorem size_take_le (L : List Od) (j : Nat) : sizeD ((L.take j).map Od.d) ≤ sizeD (L.map Od.d) := by
  have h1 : L.map Od.d = (L.take j).map Od.d ++ (L.drop j).map Od.d := by rw [← List.map_append, List.take_append_drop]
  rw [h1, sizeD_app]; exact Nat.le_add_right _ _
def NzRel (w1 : World) (b : Nat) (L : List Od) (i : Value) (wr : World) : Prop :=
  ∃ (j n c m : Nat) (a : Option Addr) (L' : List Od), i = .int .i64 j ∧ j ≤ L.length ∧ Bld wr w1.heap.size a n c L' m ∧ Way b (sizeD ((L.take j).map Od.d)) (L'.map Od.d) ∧ L'.map Od.d = normD ((L.take j).map Od.d) ∧ Ext w1 wr

end Go.Proofs.Ytkhjeeaojlaagaa
