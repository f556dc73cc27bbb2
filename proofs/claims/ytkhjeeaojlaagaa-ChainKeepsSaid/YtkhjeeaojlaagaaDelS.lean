/-
  Deltas with a fault, off the tape.
-/
import Derived.Test.YtkhjeeaojlaagaaDelR
namespace Go.Proofs.Ytkhjeeaojlaagaa
open Go.RowKit

theorem flat_set_all {y : Od} : ∀ {L : List Od} {i : Nat}, i < L.length → (L.flatMap Od.cells).take (i * 3) ++ y.cells ++ (L.flatMap Od.cells).drop (i * 3 + 3) = (L.set i y).flatMap Od.cells
  | [], _, h => by simp at h
  | x :: L, 0, _ => by
    rw [List.flatMap_cons, Nat.zero_mul, Nat.zero_add, List.take_zero, List.nil_append, List.set_cons_zero, List.flatMap_cons, List.drop_append, List.drop_of_length_le (show x.cells.length ≤ 3 from Nat.le_refl _), List.nil_append, show x.cells.length = 3 from rfl]
    rfl
  | x :: L, i + 1, h => by
    have hc : x.cells.length = 3 := rfl
    rw [List.flatMap_cons, List.set_cons_succ, List.flatMap_cons, ← flat_set_all (by simpa using h), List.take_append, List.drop_append, List.take_of_length_le (by omega), List.drop_of_length_le (by omega), hc, List.nil_append,
      show (i + 1) * 3 - 3 = i * 3 by omega, show (i + 1) * 3 + 3 - 3 = i * 3 + 3 by omega]
    simp
theorem flat_set_one {y : Od} {v : Value} {j : Nat} : ∀ {L : List Od} {i : Nat} {x : Od}, L[i]? = some x → j < 3 → y.cells = x.cells.set j v → (L.flatMap Od.cells).set (i * 3 + j) v = (L.set i y).flatMap Od.cells
  | [], _, _, h, _, _ => by cases h
  | x :: L, 0, x', h, hj, hy => by
    have : x = x' := by simpa using h
    subst this
    rw [List.flatMap_cons, Nat.zero_mul, Nat.zero_add, List.set_cons_zero, List.flatMap_cons, hy, List.set_append_left _ _ (by show j < 3; exact hj)]
  | x :: L, i + 1, x', h, hj, hy => by
    have hc : x.cells.length = 3 := rfl
    rw [List.flatMap_cons, List.set_cons_succ, List.flatMap_cons, ← flat_set_one (by simpa using h) hj hy, List.set_append_right _ _ (by omega), hc, show (i + 1) * 3 + j - 3 = i * 3 + j by omega]
theorem OwnOps.data {w w' : World} {B n c A : Nat} {L : List Od} (h : OwnOps w B (some ⟨A, 0, none⟩) n c L) (hg : w.grownBy w' (some A)) {n1 c1 : Nat} {a1 : Option Addr} {xs : List Value} (h1 : w.ownsRow B 5 1 (.slice a1 n1 c1) n1 xs) : w'.ownsRow B 5 1 (.slice a1 n1 c1) n1 xs := by
  obtain ⟨cur, hcur⟩ := own_heap h.own (b := A) rfl
  exact own_other h1 hg (fun e => own_apart h1 hcur (by decide) e.symm)
theorem OwnOps.set {w : World} {B n c A i : Nat} {L : List Od} {y : Od} (h : OwnOps w B (some ⟨A, 0, none⟩) n c L) (hi : i < n) (hd : w.ownsRow B 5 1 (.slice y.a y.n y.c) y.n (y.l.map u8) ∧ y.n ≤ 140737488355328 ∧ i64B y.f ∧ i64B y.z) :
    OwnOps (w.setCells A (i * 3) y.cells) B (some ⟨A, 0, none⟩) n c (L.set i y) where
  len := by rw [List.length_set]; exact h.len
  own := by
    rw [← flat_set_all (by rw [h.len]; exact hi)]
    exact own_setCells y.cells (i * 3) w _ h.own (by show i * 3 + 3 ≤ n * 3; omega)
  dat x hx := by
    have hg := grown_setCells A y.cells (i * 3) w
    rcases List.mem_or_eq_of_mem_set hx with hx | rfl
    · exact ⟨h.data hg (h.dat x hx).1, (h.dat x hx).2⟩
    · exact ⟨h.data hg hd.1, hd.2⟩
theorem OwnOps.set1 {w : World} {B n c A i j : Nat} {L : List Od} {x y : Od} {v : Value} (h : OwnOps w B (some ⟨A, 0, none⟩) n c L) (hx : L[i]? = some x) (hj : j < 3) (hy : y.cells = x.cells.set j v) (hd : w.ownsRow B 5 1 (.slice y.a y.n y.c) y.n (y.l.map u8) ∧ y.n ≤ 140737488355328 ∧ i64B y.f ∧ i64B y.z) :
    OwnOps (w.setCell ⟨A, i * 3 + j, none⟩ v) B (some ⟨A, 0, none⟩) n c (L.set i y) where
  len := by rw [List.length_set]; exact h.len
  own := by
    have hi : i < n := by rw [← h.len]; exact (List.getElem?_eq_some_iff.1 hx).1
    rw [← flat_set_one hx hj hy]
    exact own_setCell h.own (by omega)
  dat z hz := by
    have hg := grown_setCell' w A (i * 3 + j) v
    rcases List.mem_or_eq_of_mem_set hz with hz | rfl
    · exact ⟨h.data hg (h.dat z hz).1, (h.dat z hz).2⟩
    · exact ⟨h.data hg hd.1, hd.2⟩
theorem owp_ixp3 {P : Program} {w : World} {o : Oper} {f : Act} {K : Act → World → Prop} {Q : Exit → Act → World → Prop} (xO iO : Operand) {t : TypeId}
    (ho : o.op = .indexAddr t xO iO) {e s b : Nat} {z : Value} (E : Elem P t e s b z) {g n c : Nat} (hx : f.eval xO = .slice (some ⟨g, 0, none⟩) n c)
    (i : Nat) {k : IntKind} {I : Int} (hi : f.eval iO = .int k I) (hI : I = (i : Int)) (hin : i < n)
    (hk : K (f.put o.dst (.pointer (some ⟨g, i * s, none⟩))) w) : o.wp P f w K Q := by
  subst hI
  have hrun := run_indexAt_slice (P := P) (w := w) t ⟨g, 0, none⟩ n c k (i : Int) E.und'
  rw [if_pos (by omega), E.size] at hrun
  simp only [Result.andThen, Int.toNat_natCast, Addr.add_lit, Nat.zero_add] at hrun
  unfold Oper.wp
  simp [execOp, ho, hx, hi, hrun, Result.andThen]
  exact hk
/-- Ops off the tape, of few bytes. -/
def FaultO (w : World) (g k : Nat) (e : Ending) (w' : World) : Prop :=
  ∃ (a : Option Addr) (m c k2 : Nat) (L : List Od), e = .returned (.slice a m c) ∧ OwnOps w' w.heap.size a m c L ∧ m ≤ 7 ∧ (∀ y ∈ L, y.n ≤ 4) ∧ Tape w' g k2 ∧ k2 ≤ k + 1010 ∧ w.grownBy w' (some g)
theorem few_set {L : List Od} {i : Nat} {y : Od} (h : ∀ y ∈ L, y.n ≤ 4) (hy : y.n ≤ 4) : ∀ z ∈ L.set i y, z.n ≤ 4 := fun z hz => by
  rcases List.mem_or_eq_of_mem_set hz with hz | rfl
  · exact h z hz
  · exact hy

end Go.Proofs.Ytkhjeeaojlaagaa
