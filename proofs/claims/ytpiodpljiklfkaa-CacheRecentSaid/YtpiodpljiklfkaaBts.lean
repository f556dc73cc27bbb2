/-
  Lists of byte strings in memory.
-/
import Derived.Test.YtpiodpljiklfkaaGen
namespace Go.Proofs.Ytpiodpljiklfkaa
open Go.RowKit

/-- A byte string in memory. -/
structure Bt where
  a : Option Addr
  n : Nat
  c : Nat
  l : List UInt8
def Bt.v (k : Bt) : Value := .slice k.a k.n k.c
def Bt.In (w : World) (k : Bt) : Prop := Bytes w k.a k.n k.c k.l ∧ k.n ≤ 140737488355328
theorem Bt.In.ext {w w' : World} {k : Bt} (h : k.In w) (hx : Ext w w') : k.In w' := ⟨h.1.ext hx, h.2⟩
def Bts (w : World) (a : Option Addr) (n c : Nat) (L : List Bt) : Prop := L.length = n ∧ Row w a n c 1 (L.map Bt.v) ∧ ∀ k ∈ L, k.In w
theorem Bts.ext {w w' : World} {a : Option Addr} {n c : Nat} {L : List Bt} (h : Bts w a n c L) (hx : Ext w w') : Bts w' a n c L :=
  ⟨h.1, h.2.1.ext hx, fun k hk => (h.2.2 k hk).ext hx⟩
theorem Try.elBs : Elem Try.prog 86 42 1 24 (.slice none 0 0) := ⟨Try.underlying86, by kernel_rfl, rfl, by decide⟩
theorem bt_oneCell (L : List Bt) : ∀ u ∈ L.map Bt.v, u.oneCell' = true := by
  intro u hu
  obtain ⟨k, -, rfl⟩ := List.mem_map.1 hu
  rfl
theorem Bts.get {w : World} {a : Option Addr} {n c : Nat} {L : List Bt} (h : Bts w a n c L) {i : Nat} (hi : i < n) : ∃ k, L[i]? = some k ∧ k.In w := by
  have hl : i < L.length := by rw [h.1]; exact hi
  exact ⟨L[i], List.getElem?_eq_getElem hl, h.2.2 _ (List.getElem_mem hl)⟩
theorem bt_cell {w : World} {b o i : Nat} {L : List Bt} {k : Bt} (hk : L[i]? = some k) (hc : ∀ j, j < 1 → w.cell? ⟨b, o + j, none⟩ = (L.map Bt.v)[i * 1 + j]?) : w.cell? ⟨b, o, none⟩ = some (.slice k.a k.n k.c) := by
  have h := hc 0 (by decide)
  rw [Nat.add_zero, Nat.mul_one, Nat.add_zero, List.getElem?_map, hk] at h
  exact h

/-- Byte strings in memory of one's own, the list too. -/
structure OwnBts (w : World) (B : Nat) (a : Option Addr) (n c : Nat) (L : List Bt) : Prop where
  len : L.length = n
  own : w.ownsRow B 42 1 (.slice a n c) n (L.map Bt.v)
  dat : ∀ y ∈ L, w.ownsRow B 5 1 (.slice y.a y.n y.c) y.n (y.l.map u8) ∧ y.n ≤ 140737488355328
theorem OwnBts.nil (w : World) (B : Nat) : OwnBts w B none 0 0 [] := ⟨rfl, own_nil _ _ _ _, fun y hy => by cases hy⟩
theorem OwnBts.bts {w : World} {B n c : Nat} {a : Option Addr} {L : List Bt} (h : OwnBts w B a n c L) : Bts w a n c L :=
  ⟨h.len, Row.of_own h.own, fun k hk => ⟨Bytes.of_own (h.dat k hk).1, (h.dat k hk).2⟩⟩
theorem OwnBts.ext {w w' : World} {B n c : Nat} {a : Option Addr} {L : List Bt} (h : OwnBts w B a n c L) (hx : Ext w w') : OwnBts w' B a n c L :=
  ⟨h.len, own_ext h.own hx, fun k hk => ⟨own_ext (h.dat k hk).1 hx, (h.dat k hk).2⟩⟩
theorem OwnBts.kept {w w' : World} {B n c g : Nat} {a : Option Addr} {L : List Bt} (h : OwnBts w B a n c L) (hg : w.grownBy w' (some g)) (hB : g < B) : OwnBts w' B a n c L :=
  ⟨h.len, own_kept h.own hg hB, fun k hk => ⟨own_kept (h.dat k hk).1 hg hB, (h.dat k hk).2⟩⟩
theorem OwnBts.base {w : World} {B B' n c : Nat} {a : Option Addr} {L : List Bt} (h : OwnBts w B a n c L) (hB : B' ≤ B) : OwnBts w B' a n c L :=
  ⟨h.len, own_base h.own hB, fun k hk => ⟨own_base (h.dat k hk).1 hB, (h.dat k hk).2⟩⟩
/-- An append to a list leaves a byte row alone. -/
theorem own_app_other {w w' : World} {B e s n c B' t s' n' c' : Nat} {a a' : Option Addr} {xs ys : List Value} (h : w.ownsRow B e s (.slice a n c) n xs) (h' : w.ownsRow B' t s' (.slice a' n' c') n' ys) (ht : e ≠ t) (hg : w.grownBy w' (blockOf a')) : w'.ownsRow B e s (.slice a n c) n xs := by
  cases hk : blockOf a' with
  | none => rw [hk] at hg; exact own_ext h (Ext.of_grown hg)
  | some b =>
    rw [hk] at hg
    obtain ⟨cur, hcur⟩ := own_heap h' hk
    exact own_other h hg (fun e => own_apart h hcur (Ne.symm ht) e.symm)
theorem OwnBts.push {w w' : World} {B n c c' : Nat} {a a' : Option Addr} {L : List Bt} {y : Bt} (h : OwnBts w B a n c L) (hg : w.grownBy w' (blockOf a)) (ho : w'.ownsRow B 42 1 (.slice a' (n + 1) c') (n + 1) (L.map Bt.v ++ [y.v]))
    (hd : w.ownsRow B 5 1 (.slice y.a y.n y.c) y.n (y.l.map u8)) (hb : y.n ≤ 140737488355328) : OwnBts w' B a' (n + 1) c' (L ++ [y]) where
  len := by rw [List.length_append, h.len]; rfl
  own := by rw [List.map_append]; exact ho
  dat := by
    intro x hx
    rcases List.mem_append.1 hx with hx | hx
    · exact ⟨own_app_other (h.dat x hx).1 h.own (by decide) hg, (h.dat x hx).2⟩
    · obtain rfl : x = y := by simpa using hx
      exact ⟨own_app_other hd h.own (by decide) hg, hb⟩
end Go.Proofs.Ytpiodpljiklfkaa
