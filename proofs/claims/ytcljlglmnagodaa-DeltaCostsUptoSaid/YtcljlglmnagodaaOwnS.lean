/-
  Stores into a slice of one's own.
-/
import Derived.Test.YtcljlglmnagodaaBase
import Derived.Laws.OwnMore
import Derived.Deep.MidRow
namespace Go.Proofs.Ytcljlglmnagodaa
open Go.RowKit

theorem grown_setCell' (w : World) (g j : Nat) (v : Value) : w.grownBy (w.setCell ⟨g, j, none⟩ v) (some g) :=
  ⟨rfl, rfl, rfl, by simp [World.setCell], fun k _ hk => Below.heap_setCell _ _ _ _ (fun e => hk (by rw [e]))⟩
theorem grown_trans' {w w1 w2 : World} {g : Option Nat} (h : w.grownBy w1 g) (h2 : w1.grownBy w2 g) : w.grownBy w2 g :=
  ⟨h2.os.trans h.os, h2.tape.trans h.tape, h2.output.trans h.output, Nat.le_trans h.size h2.size, fun k hk hg => (h2.block k (Nat.lt_of_lt_of_le hk h.size) hg).trans (h.block k hk hg)⟩
theorem grown_setCells (g : Nat) : ∀ (vs : List Value) (o : Nat) (w : World), w.grownBy (w.setCells g o vs) (some g)
  | [], _, w => World.grownBy.refl w _
  | v :: vs, o, w => grown_trans' (grown_setCell' w g o v) (grown_setCells g vs (o + 1) _)

theorem own_setCell {w : World} {B e s n c g j : Nat} {xs : List Value} {v : Value} (h : w.ownsRow B e s (.slice (some ⟨g, 0, none⟩) n c) n xs) (hj : j < n * s) :
    (w.setCell ⟨g, j, none⟩ v).ownsRow B e s (.slice (some ⟨g, 0, none⟩) n c) n (xs.set j v) := by
  obtain ⟨hl, hh⟩ := h
  refine ⟨by simpa using hl, ?_⟩
  rcases hh with ⟨hv, _⟩ | ⟨g', cap, cur, hv, hB, hg, hle, hm, hs, ht⟩
  · simp at hv
  · simp only [Value.slice.injEq, Option.some.injEq, Addr.mk.injEq, and_true, true_and] at hv
    obtain ⟨rfl, rfl⟩ := hv
    refine .inr ⟨g, c, cur.setIfInBounds j v, rfl, hB, ?_, hle, hm, by simpa using hs, ?_⟩
    · simp [World.setCell, Array.getElem?_modify, hg]
    · rw [Array.toList_setIfInBounds, ← ht]
      apply List.ext_getElem?
      intro i
      simp only [List.getElem?_take, List.getElem?_set, List.length_take]
      by_cases hi : i < n * s
      · simp only [hi, if_true]
        by_cases hij : j = i
        · subst hij
          simp only [if_true]
          have : j < cur.toList.length := by
            have h1 := hl; rw [← ht, List.length_take] at h1; omega
          rw [if_pos this, if_pos (by omega)]
        · simp only [hij, if_false]
      · simp only [hi, if_false]
        split <;> simp_all

theorem own_setCells {B e s n c g : Nat} : ∀ (vs : List Value) (o : Nat) (w : World) (xs : List Value), w.ownsRow B e s (.slice (some ⟨g, 0, none⟩) n c) n xs → o + vs.length ≤ n * s →
    (w.setCells g o vs).ownsRow B e s (.slice (some ⟨g, 0, none⟩) n c) n (xs.take o ++ vs ++ xs.drop (o + vs.length))
  | [], o, w, xs, h, _ => by simpa [World.setCells] using h
  | v :: vs, o, w, xs, h, hle => by
    simp only [List.length_cons] at hle ⊢
    have h1 := own_setCell (j := o) (v := v) h (by omega)
    have h2 := own_setCells vs (o + 1) _ _ h1 (by omega)
    have hl := h.1
    have e : (xs.set o v).take (o + 1) ++ vs ++ (xs.set o v).drop (o + 1 + vs.length) = xs.take o ++ v :: vs ++ xs.drop (o + (vs.length + 1)) := by
      rw [List.drop_set, if_pos (by omega), List.take_succ_eq_append_getElem (by simp; omega), List.take_set_of_le (Nat.le_refl _)]
      simp [show o + 1 + vs.length = o + (vs.length + 1) by omega]
    rw [e] at h2
    exact h2
/-- An owned slice that is not empty has its block. -/
theorem own_some {w : World} {B e s n c : Nat} {a : Option Addr} {xs : List Value} (h : w.ownsRow B e s (.slice a n c) n xs) (hn : 0 < n) :
    ∃ g cur, a = some ⟨g, 0, none⟩ ∧ B ≤ g ∧ w.heap[g]? = some (.cells cur e (0, 0)) ∧ n ≤ c ∧ ∀ i, i < n * s → cur[i]? = xs[i]? := by
  obtain ⟨hl, hh⟩ := h
  rcases hh with ⟨hv, rfl⟩ | ⟨g', cap, cur, hv, hB, hg, hle, hm, hs, ht⟩
  · simp only [Value.slice.injEq] at hv
    omega
  · simp only [Value.slice.injEq] at hv
    obtain ⟨rfl, -, rfl⟩ := hv
    refine ⟨g', cur, rfl, hB, hg, hle, fun i hi => ?_⟩
    rw [← ht, List.getElem?_take, if_pos hi, Array.getElem?_toList]
/-- A store into a block keeps what is owned in another one. -/
theorem own_other {w w' : World} {B e s n c g : Nat} {a : Option Addr} {xs : List Value} (h : w.ownsRow B e s (.slice a n c) n xs) (hw : w.grownBy w' (some g)) (hg : blockOf a ≠ some g) : w'.ownsRow B e s (.slice a n c) n xs :=
  h.kept (row := some g) hw (by
    rw [ownBlock_slice]
    cases ha : blockOf a with
    | none => simp
    | some b => rw [ha] at hg; simpa using hg)
/-- A byte is stored: bytes stay bytes. -/
theorem own_setByte {w : World} {B e n c g j : Nat} {a : Option Addr} {l : List UInt8} (x : UInt8) (h : w.ownsRow B e 1 (.slice a n c) n (l.map u8)) (hg : ∃ cur, w.heap[g]? = some (.cells cur e (0, 0)) ∧ j < cur.size) :
    ∃ l' : List UInt8, l'.length = l.length ∧ (w.setCell ⟨g, j, none⟩ (u8 x)).ownsRow B e 1 (.slice a n c) n (l'.map u8) := by
  by_cases hb : blockOf a = some g
  · by_cases hj : j < n
    · obtain ⟨g', cur, rfl, -⟩ := own_some h (by omega)
      obtain rfl : g' = g := by simpa [blockOf] using hb
      exact ⟨l.set j x, by simp, by rw [List.map_set]; exact own_setCell h (by omega)⟩
    · refine ⟨l, rfl, h.1, ?_⟩
      rcases h.2 with h2 | ⟨g', cap, cur, hv, hB, hg', hle, hm, hs, ht⟩
      · exact .inl h2
      · simp only [Value.slice.injEq] at hv
        obtain ⟨rfl, -, rfl⟩ := hv
        obtain rfl : g' = g := by simpa [blockOf] using hb
        refine .inr ⟨g', c, cur.setIfInBounds j (u8 x), rfl, hB, by simp [World.setCell, Array.getElem?_modify, hg'], hle, hm, by simpa using hs, ?_⟩
        rw [Array.toList_setIfInBounds, List.take_set_of_le (by omega)]
        exact ht
  · exact ⟨l, rfl, own_other h (grown_setCell' w g j _) hb⟩
end Go.Proofs.Ytcljlglmnagodaa
