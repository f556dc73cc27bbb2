/-
  The reference's Same, where the lists are equal; the statements' example.
-/
import Derived.Test.YtkhjeeaojlaagaaDelJ
import Derived.Test.YtkhjeeaojlaagaaDelK
namespace Go.Proofs.Ytkhjeeaojlaagaa
open Go.RowKit

theorem Bytes.of_heap {w : World} {g e : Nat} {fr : Nat × Nat} {l : List UInt8} (h : w.heap[g]? = some (.cells (l.map u8).toArray e fr)) (hm : l.length ≤ maxLen) : Bytes w (some ⟨g, 0, none⟩) l.length l.length l :=
  ⟨rfl, by simp, Nat.le_refl _, hm, (fun h => nomatch h), (fun p hp => .inr ⟨_, _, (Option.some.inj hp).symm⟩), fun p hp j u hj => by
    cases hp
    rw [Addr.add_lit, Nat.zero_add, cell_of_row w g j _ _ _ h, ← hj]
    simp⟩

theorem known_make : makeRes [97, 98, 99, 100, 101, 102] [97, 98, 99, 100, 88, 97, 98, 99, 100, 101, 102] = ([⟨0, 4, []⟩, ⟨0, 0, [88]⟩, ⟨0, 6, []⟩], 0) := by decide
theorem known_enc : encDRes 6 [⟨0, 4, []⟩, ⟨0, 0, [88]⟩, ⟨0, 6, []⟩] = ([3, 9, 0, 2, 88, 13, 0], 0) := by
  have h : (ckRes 6 [⟨0, 4, []⟩, ⟨0, 0, [88]⟩, ⟨0, 6, []⟩]).2 = 0 := by decide
  unfold encDRes
  rw [if_pos h]
  simp [encD, encOps, Dp.enc, Dp.copies, enc_lt]

theorem i64_of {x : Int} (h1 : -9223372036854775808 ≤ x) (h2 : x ≤ 9223372036854775807) : i64B x := ⟨h1, h2⟩
end Go.Proofs.Ytkhjeeaojlaagaa
