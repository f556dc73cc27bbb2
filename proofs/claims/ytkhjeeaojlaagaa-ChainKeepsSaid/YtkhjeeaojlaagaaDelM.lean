/-
  Texts off the tape; the law DeltaMakes.
-/
import Derived.Test.YtkhjeeaojlaagaaDelL
namespace Go.Proofs.Ytkhjeeaojlaagaa
open Go.RowKit

/-- At most n bytes in new memory, off the tape at block g. -/
def TextPost (w : World) (g k n : Nat) (e : Ending) (w' : World) : Prop :=
  ∃ (a : Option Addr) (m c k2 : Nat) (l : List UInt8), e = .returned (.slice a m c) ∧ w'.ownsRow w.heap.size 5 1 (.slice a m c) m (l.map u8) ∧ m ≤ n ∧ Tape w' g k2 ∧ k2 ≤ k + n + 2 ∧ w.grownBy w' (some g)
def MkLRel (w2 : World) (g : Nat) (bb i : Value) (wr : World) : Prop :=
  ∃ (k m c kk : Nat) (a : Option Addr) (l : List UInt8), i = .int .i64 k ∧ bb = .slice a m c ∧ k ≤ 3 ∧ m + 65 * k ≤ 230 ∧ kk + 1000 * k ≤ 10000 ∧ wr.ownsRow w2.heap.size 5 1 (.slice a m c) m (l.map u8) ∧ Tape wr g kk ∧ w2.grownBy wr (some g)

end Go.Proofs.Ytkhjeeaojlaagaa
