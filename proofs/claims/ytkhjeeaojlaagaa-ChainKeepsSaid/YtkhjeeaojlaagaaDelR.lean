/-
  Right deltas off the tape.
-/
import Derived.Test.YtkhjeeaojlaagaaDelM
import Derived.Deep.CutRange
namespace Go.Proofs.Ytkhjeeaojlaagaa
open Go.RowKit

/-- Ops in memory of one's own. -/
structure OwnOps (w : World) (B : Nat) (a : Option Addr) (n c : Nat) (L : List Od) : Prop where
  len : L.length = n
  own : w.ownsRow B 83 3 (.slice a n c) n (L.flatMap Od.cells)
  dat : ∀ y ∈ L, w.ownsRow B 5 1 (.slice y.a y.n y.c) y.n (y.l.map u8) ∧ y.n ≤ 140737488355328 ∧ i64B y.f ∧ i64B y.z
theorem OwnOps.nil (w : World) (B : Nat) : OwnOps w B none 0 0 [] := ⟨rfl, own_nil _ _ _ _, fun y hy => by cases hy⟩
theorem OwnOps.ops {w : World} {B n c : Nat} {a : Option Addr} {L : List Od} (h : OwnOps w B a n c L) : Ops w a n c L :=
  ⟨h.len, Row.of_own h.own, fun k hk => ⟨Bytes.of_own (h.dat k hk).1, (h.dat k hk).2⟩⟩
theorem OwnOps.ext {w w' : World} {B n c : Nat} {a : Option Addr} {L : List Od} (h : OwnOps w B a n c L) (hx : Ext w w') : OwnOps w' B a n c L :=
  ⟨h.len, own_ext h.own hx, fun k hk => ⟨own_ext (h.dat k hk).1 hx, (h.dat k hk).2⟩⟩
theorem OwnOps.kept {w w' : World} {B n c g : Nat} {a : Option Addr} {L : List Od} (h : OwnOps w B a n c L) (hg : w.grownBy w' (some g)) (hB : g < B) : OwnOps w' B a n c L :=
  ⟨h.len, own_kept h.own hg hB, fun k hk => ⟨own_kept (h.dat k hk).1 hg hB, (h.dat k hk).2⟩⟩
theorem OwnOps.keptO {w w' : World} {B n c b : Nat} {a : Option Addr} {L : List Od} (h : OwnOps w B a n c L) (hg : w.grownBy w' (some b)) (hb : b < B ∨ ∃ (cs : Array Value) (t : TypeId), w.heap[b]? = some (.cells cs t (0, 0)) ∧ blockOf a ≠ some b ∧ t ≠ 5) : OwnOps w' B a n c L := by
  rcases hb with hb | ⟨cs, t, hb, hna, ht⟩
  · exact h.kept hg hb
  · exact ⟨h.len, own_other h.own hg hna, fun k hk => ⟨own_other (h.dat k hk).1 hg (fun e => own_apart (h.dat k hk).1 hb ht e.symm), (h.dat k hk).2⟩⟩
theorem OwnOps.base {w : World} {B B' n c : Nat} {a : Option Addr} {L : List Od} (h : OwnOps w B a n c L) (hB : B' ≤ B) : OwnOps w B' a n c L :=
  ⟨h.len, own_base h.own hB, fun k hk => ⟨own_base (h.dat k hk).1 hB, (h.dat k hk).2⟩⟩
theorem OwnOps.push {w w' : World} {B n c c' : Nat} {a a' : Option Addr} {L : List Od} {y : Od} (h : OwnOps w B a n c L) (hg : w.grownBy w' (blockOf a)) (ho : w'.ownsRow B 83 3 (.slice a' (n + 1) c') (n + 1) (L.flatMap Od.cells ++ y.cells))
    (hd : w.ownsRow B 5 1 (.slice y.a y.n y.c) y.n (y.l.map u8)) (hb : y.n ≤ 140737488355328 ∧ i64B y.f ∧ i64B y.z) : OwnOps w' B a' (n + 1) c' (L ++ [y]) where
  len := by rw [List.length_append, h.len]; rfl
  own := by rw [List.flatMap_append]; simpa using ho
  dat := by
    have keep : ∀ {n1 c1 : Nat} {a1 : Option Addr} {xs : List Value}, w.ownsRow B 5 1 (.slice a1 n1 c1) n1 xs → w'.ownsRow B 5 1 (.slice a1 n1 c1) n1 xs := fun h1 => by
      cases hk : blockOf a with
      | none => rw [hk] at hg; exact own_ext h1 (Ext.of_grown hg)
      | some b =>
        rw [hk] at hg
        obtain ⟨cur, hcur⟩ := own_heap h.own hk
        exact own_other h1 hg (fun e => own_apart h1 hcur (by decide) e.symm)
    intro x hx
    rcases List.mem_append.1 hx with hx | hx
    · exact ⟨keep (h.dat x hx).1, (h.dat x hx).2⟩
    · obtain rfl : x = y := by simpa using hx
      exact ⟨keep hd, hb⟩
theorem heap_set3 {w : World} {b : Nat} {x y z v : Value} {t : TypeId} (h : w.heap[b]? = some (.cells #[x, y, z] t (0, 0))) : (w.setCell ⟨b, 1, none⟩ v).heap[b]? = some (.cells #[x, v, z] t (0, 0)) := by
  simp [World.setCell, Array.getElem?_modify, h]
theorem heap_set30 {w : World} {b : Nat} {x y z v : Value} {t : TypeId} (h : w.heap[b]? = some (.cells #[x, y, z] t (0, 0))) : (w.setCell ⟨b, 0, none⟩ v).heap[b]? = some (.cells #[v, y, z] t (0, 0)) := by
  simp [World.setCell, Array.getElem?_modify, h]
/-- A right op of few bytes on a base of N bytes. -/
def OpOk (N : Nat) (y : Od) : Prop := y.d.ok N ∧ y.n ≤ 4 ∧ 0 ≤ y.f ∧ 0 ≤ y.z ∧ y.f + y.z ≤ N
def MadeO (w : World) (g k N : Nat) (e : Ending) (w' : World) : Prop :=
  ∃ (a : Option Addr) (m c k2 : Nat) (L : List Od), e = .returned (.slice a m c) ∧ OwnOps w' w.heap.size a m c L ∧ m ≤ 7 ∧ (∀ y ∈ L, OpOk N y) ∧ Tape w' g k2 ∧ k2 ≤ k + 1000 ∧ w.grownBy w' (some g)
def MdRel (w : World) (g k N q : Nat) (out i : Value) (wr : World) : Prop :=
  ∃ (a : Option Addr) (m c k2 j : Nat) (L : List Od), q = j ∧ i = .int .i64 j ∧ out = .slice a m c ∧ OwnOps wr w.heap.size a m c L ∧ m + j ≤ 7 ∧ (∀ y ∈ L, OpOk N y) ∧ Tape wr g k2 ∧ k2 + 100 * j ≤ k + 1000 ∧ w.grownBy wr (some g)

end Go.Proofs.Ytkhjeeaojlaagaa
