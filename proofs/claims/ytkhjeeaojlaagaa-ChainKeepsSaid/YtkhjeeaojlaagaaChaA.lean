/-
  Lists of links in memory.
-/
import Derived.Test.YtkhjeeaojlaagaaDelR
import Derived.Test.YtkhjeeaojlaagaaMathC
namespace Go.Proofs.Ytkhjeeaojlaagaa
open Go.RowKit

/-- A link in memory. -/
structure Lk where
  b : Int
  a : Option Addr
  n : Nat
  c : Nat
  l : List UInt8
def Lk.cells (k : Lk) : List Value := [.int .i64 k.b, .slice k.a k.n k.c]
def Lk.d (k : Lk) : Ln := ⟨k.b, k.l⟩
def Lk.In (w : World) (k : Lk) : Prop := Bytes w k.a k.n k.c k.l ∧ k.n ≤ 140737488355328 ∧ i64B k.b
def Links (w : World) (a : Option Addr) (n c : Nat) (L : List Lk) : Prop := L.length = n ∧ Row w a n c 2 (L.flatMap Lk.cells) ∧ ∀ k ∈ L, k.In w
theorem Lk.In.ext {w w' : World} {k : Lk} (h : k.In w) (hx : Ext w w') : k.In w' := ⟨h.1.ext hx, h.2⟩
theorem Links.ext {w w' : World} {a : Option Addr} {n c : Nat} {L : List Lk} (h : Links w a n c L) (hx : Ext w w') : Links w' a n c L :=
  ⟨h.1, h.2.1.ext hx, fun k hk => (h.2.2 k hk).ext hx⟩
theorem lk_get {L : List Lk} {i : Nat} {k : Lk} (h : L[i]? = some k) : ∀ j, j < 2 → (L.flatMap Lk.cells)[i * 2 + j]? = k.cells[j]? := by
  induction L generalizing i with
  | nil => cases h
  | cons x L ih =>
    intro j hj
    rw [List.flatMap_cons]
    cases i with
    | zero =>
      cases h
      rw [Nat.zero_mul, Nat.zero_add, List.getElem?_append_left (by simp [Lk.cells]; omega)]
    | succ i =>
      rw [List.getElem?_append_right (by simp [Lk.cells]; omega), ← ih (i := i) (by simpa using h) j hj]
      congr 1
      simp [Lk.cells]
      omega
theorem lk_range {w : World} {b o i : Nat} {L : List Lk} {k : Lk} (hk : L[i]? = some k) (hc : ∀ j, j < 2 → w.cell? ⟨b, o + j, none⟩ = (L.flatMap Lk.cells)[i * 2 + j]?) :
    w.rangeAt b o k.cells := fun j v hj => by
  have hlt : j < 2 := (List.getElem?_eq_some_iff.1 hj).1
  exact (hc j hlt).trans ((lk_get hk j hlt).trans hj)
theorem Try.elLk : Elem Try.prog 26 45 2 32 (.agg #[.int .i64 0, .slice none 0 0]) := ⟨Try.underlying26, by kernel_rfl, rfl, by decide⟩
theorem lk_len (L : List Lk) : (L.flatMap Lk.cells).length = L.length * 2 := by
  induction L with
  | nil => rfl
  | cons k L ih => rw [List.flatMap_cons, List.length_append, ih, List.length_cons, Nat.add_mul, Nat.one_mul]; simp [Lk.cells]; omega
theorem lk_take (M : List Lk) (k : Nat) : (M.flatMap Lk.cells).take (k * 2) = (M.take k).flatMap Lk.cells := by
  induction M generalizing k with
  | nil => simp
  | cons x M ih =>
    cases k with
    | zero => simp
    | succ k =>
      rw [List.flatMap_cons, List.take_succ_cons, List.flatMap_cons, ← ih, List.take_append]
      have hc : x.cells.length = 2 := rfl
      rw [List.take_of_length_le (by omega), hc, show (k + 1) * 2 - 2 = k * 2 by omega]
theorem lk_drop (M : List Lk) (k : Nat) : (M.flatMap Lk.cells).drop (k * 2) = (M.drop k).flatMap Lk.cells := by
  induction M generalizing k with
  | nil => simp
  | cons x M ih =>
    cases k with
    | zero => simp
    | succ k =>
      rw [List.flatMap_cons, List.drop_succ_cons, ← ih, List.drop_append]
      have hc : x.cells.length = 2 := rfl
      rw [List.drop_of_length_le (by omega), hc, show (k + 1) * 2 - 2 = k * 2 by omega, List.nil_append]
theorem lk_oneCell (M : List Lk) : ∀ u ∈ M.flatMap Lk.cells, u.oneCell' = true := by
  intro u hu
  obtain ⟨k, -, hk⟩ := List.mem_flatMap.1 hu
  simp only [Lk.cells, List.mem_cons, List.not_mem_nil, or_false] at hk
  rcases hk with rfl | rfl <;> rfl

/-- Links in memory of one's own. -/
structure OwnLks (w : World) (B : Nat) (a : Option Addr) (n c : Nat) (L : List Lk) : Prop where
  len : L.length = n
  own : w.ownsRow B 45 2 (.slice a n c) n (L.flatMap Lk.cells)
  dat : ∀ y ∈ L, w.ownsRow B 5 1 (.slice y.a y.n y.c) y.n (y.l.map u8) ∧ y.n ≤ 140737488355328 ∧ i64B y.b
theorem OwnLks.nil (w : World) (B : Nat) : OwnLks w B none 0 0 [] := ⟨rfl, own_nil _ _ _ _, fun y hy => by cases hy⟩
theorem OwnLks.links {w : World} {B n c : Nat} {a : Option Addr} {L : List Lk} (h : OwnLks w B a n c L) : Links w a n c L :=
  ⟨h.len, Row.of_own h.own, fun k hk => ⟨Bytes.of_own (h.dat k hk).1, (h.dat k hk).2⟩⟩
theorem OwnLks.ext {w w' : World} {B n c : Nat} {a : Option Addr} {L : List Lk} (h : OwnLks w B a n c L) (hx : Ext w w') : OwnLks w' B a n c L :=
  ⟨h.len, own_ext h.own hx, fun k hk => ⟨own_ext (h.dat k hk).1 hx, (h.dat k hk).2⟩⟩
theorem OwnLks.kept {w w' : World} {B n c g : Nat} {a : Option Addr} {L : List Lk} (h : OwnLks w B a n c L) (hg : w.grownBy w' (some g)) (hB : g < B) : OwnLks w' B a n c L :=
  ⟨h.len, own_kept h.own hg hB, fun k hk => ⟨own_kept (h.dat k hk).1 hg hB, (h.dat k hk).2⟩⟩
theorem OwnLks.base {w : World} {B B' n c : Nat} {a : Option Addr} {L : List Lk} (h : OwnLks w B a n c L) (hB : B' ≤ B) : OwnLks w B' a n c L :=
  ⟨h.len, own_base h.own hB, fun k hk => ⟨own_base (h.dat k hk).1 hB, (h.dat k hk).2⟩⟩
theorem OwnLks.push {w w' : World} {B n c c' : Nat} {a a' : Option Addr} {L : List Lk} {y : Lk} (h : OwnLks w B a n c L) (hg : w.grownBy w' (blockOf a)) (ho : w'.ownsRow B 45 2 (.slice a' (n + 1) c') (n + 1) (L.flatMap Lk.cells ++ y.cells))
    (hd : w.ownsRow B 5 1 (.slice y.a y.n y.c) y.n (y.l.map u8)) (hb : y.n ≤ 140737488355328 ∧ i64B y.b) : OwnLks w' B a' (n + 1) c' (L ++ [y]) where
  len := by rw [List.length_append, h.len]; rfl
  own := by rw [List.flatMap_append]; simpa using ho
  dat := by
    have keep : ∀ {n1 c1 : Nat} {a1 : Option Addr} {xs : List Value}, w.ownsRow B 5 1 (.slice a1 n1 c1) n1 xs → w'.ownsRow B 5 1 (.slice a1 n1 c1) n1 xs := fun h1 => by
      cases hk : blockOf a with
      | none => rw [hk] at hg; exact own_ext h1 (Ext.of_grown hg)
      | some b =>
        rw [hk] at hg
        obtain ⟨cur, hcur⟩ := own_heap h.own hk
        exact own_other h1 hg (fun e => own_apart h1 hcur (by decide) e.symm)
    intro x hx
    rcases List.mem_append.1 hx with hx | hx
    · exact ⟨keep (h.dat x hx).1, (h.dat x hx).2⟩
    · obtain rfl : x = y := by simpa using hx
      exact ⟨keep hd, hb⟩
end Go.Proofs.Ytkhjeeaojlaagaa
