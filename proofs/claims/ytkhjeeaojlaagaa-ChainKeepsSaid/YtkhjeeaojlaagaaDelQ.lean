/-
  The reference's Normal, of a normal list; the law DeltaTurns.
-/
import Derived.Test.YtkhjeeaojlaagaaDelL
import Derived.Test.YtkhjeeaojlaagaaDelN
namespace Go.Proofs.Ytkhjeeaojlaagaa
open Go.RowKit

theorem normal_get : ∀ {os : List Dp} {j : Nat} {x y : Dp}, NormalD os → os[j]? = some x → os[j + 1]? = some y → apartD x y
  | [], _, _, _, _, h, _ => by cases h
  | [_], 0, _, _, _, _, h => by simp at h
  | [_], j + 1, _, _, _, h, _ => by simp at h
  | a :: b :: os, 0, x, y, hN, h, h' => by
    simp at h h'
    subst h; subst h'
    exact hN.1
  | a :: b :: os, j + 1, x, y, hN, h, h' => normal_get (os := b :: os) (j := j) hN.2 (by simpa using h) (by simpa using h')
def NoMid (w1 : World) (x y : Od) (v : Nat → Value) (w' : World) : Prop :=
  ∃ b4 b5 : Nat, v 4 = .pointer (some ⟨b4, 0, none⟩) ∧ v 5 = .pointer (some ⟨b5, 0, none⟩) ∧ w'.heap[b4]? = some (.cells #[.int .i64 x.f, .int .i64 x.z, .slice x.a x.n x.c] 83 (0, 0)) ∧ w'.heap[b5]? = some (.cells #[.int .i64 y.f, .int .i64 y.z, .slice y.a y.n y.c] 83 (0, 0)) ∧ Ext w1 w'
def NoRel (w : World) (n : Nat) (i : Value) (wr : World) : Prop := ∃ j : Nat, i = .int .i64 j ∧ 1 ≤ j ∧ (j ≤ n ∨ j = 1) ∧ Ext w wr
theorem nice_cases {o : Dp} (h : o.nice) : (o.copies = true ∧ o.literal = false ∧ 1 ≤ o.z ∧ 0 ≤ o.f) ∨ (o.copies = false ∧ o.literal = true ∧ o.z = 0 ∧ o.f = 0) := by
  rcases h with ⟨h1, h2, h3⟩ | ⟨h1, h2, h3⟩
  · have hc : o.copies = true := by simp [Dp.copies, h1, h3]
    exact .inl ⟨hc, Dp.copies_not_literal hc, h1, h2⟩
  · have hc : o.copies = false := by simp [Dp.copies]; omega
    exact .inr ⟨hc, by simp [Dp.literal, h1, h2, h3], h1, h2⟩

theorem make_check {b T : List UInt8} (hb : b.length ≤ 2048) (hT : T.length ≤ 2048) : ckRes b.length (makeD b T) = ((T.length : Int), 0) := by
  have h := make_inv b T
  have hsz := make_size b T
  have hl := length_size h.nm.2
  rw [← hsz]
  exact ckRes_mk (by omega) (by omega) h.ok (by omega) (by omega)
theorem make_apply {b T : List UInt8} (hb : b.length ≤ 2048) (hT : T.length ≤ 2048) : apRes b (makeD b T) = (T, 0) := by
  unfold apRes
  rw [make_check hb hT, make_turns]
  rfl
end Go.Proofs.Ytkhjeeaojlaagaa
