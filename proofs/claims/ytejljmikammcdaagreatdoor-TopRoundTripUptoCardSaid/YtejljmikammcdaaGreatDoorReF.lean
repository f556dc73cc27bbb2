/-
  Layer region: a row of records that the function owns, sorted by the library; the order of texts.
-/
import Derived.Test.YtejljmikammcdaaGreatDoorJoined8
import Derived.Shelf.SlSortCmp.WholeK
namespace Go.Proofs.YtejljmikammcdaaGreatDoor
open Go.RowKit

theorem flatK_list {α : Type} [Inhabited α] {enc : α → List Value} {k : Nat} (hk : ∀ x, (enc x).length = k) (L : List α) : (Go.Sort.flatK enc k L.toArray).toList = L.flatMap enc := by
  apply List.ext_getElem?
  intro t
  by_cases ht : t < L.length * k
  · have hk0 : 0 < k := by
      rcases Nat.eq_zero_or_pos k with h | h
      · subst h; simp at ht
      · exact h
    have hi : t / k < L.length := Nat.div_lt_of_lt_mul (by rwa [Nat.mul_comm])
    have hx : L[t / k]? = some L[t / k] := List.getElem?_eq_getElem hi
    have hm : t % k < k := Nat.mod_lt _ hk0
    have h1 := flat_get hk hx (t % k) hm
    rw [Nat.div_add_mod'] at h1
    rw [h1]
    have h2 := Go.Sort.get_flatK enc k L.toArray t (by simpa using ht)
    have h3 : t < (Go.Sort.flatK enc k L.toArray).size := by simpa using ht
    rw [getElem!_pos _ t h3] at h2
    rw [Array.getElem?_toList, Array.getElem?_eq_getElem h3, h2]
    have h4 : L.toArray[t / k]! = L[t / k] := by simp [hi]
    rw [h4, getElem!_pos _ (t % k) (by rw [hk]; exact hm), List.getElem?_eq_getElem]
  · rw [List.getElem?_eq_none (by simpa using ht), List.getElem?_eq_none (by rw [flat_len hk]; omega)]

theorem holdsK_own {α : Type} [Inhabited α] {enc : α → List Value} {k : Nat} (hk : ∀ x, (enc x).length = k) {w : World} {B e g c : Nat} {L : List α} (h : w.ownsRow B e k (.slice (some ⟨g, 0, none⟩) L.length c) L.length (L.flatMap enc)) :
    Go.Sort.HoldsK enc k w g 0 L.toArray := by
  intro j hj
  rw [Go.Sort.size_flatK] at hj
  have hj' : j < L.length * k := by simpa using hj
  obtain ⟨hl, hh⟩ := h
  rcases hh with ⟨hv, -⟩ | ⟨g', cap, cur, hv, hB, hg, hle, hm, hs, ht⟩
  · simp at hv
  · simp only [Value.slice.injEq, Option.some.injEq, Addr.mk.injEq, and_true, true_and] at hv
    obtain ⟨rfl, rfl⟩ := hv
    refine ⟨?_, by simp [World.frozen?, hg]⟩
    have h1 : (cur.toList.take (L.length * k))[j]? = (L.flatMap enc)[j]? := by rw [ht]
    rw [List.getElem?_take_of_lt hj', ← flatK_list hk] at h1
    have h3 : j < (Go.Sort.flatK enc k L.toArray).size := by simpa using hj'
    rw [Array.getElem?_toList (xs := Go.Sort.flatK enc k L.toArray), Array.getElem?_eq_getElem h3] at h1
    simp only [World.cell?, hg, Nat.zero_add]
    simp only [Option.isSome_none, Bool.false_eq_true, if_false]
    rw [← Array.getElem?_toList, h1, getElem!_pos _ j h3]
    rfl

theorem grown_sortK {α : Type} [Inhabited α] (enc : α → List Value) (k : Nat) (w : World) (g m : Nat) (d : Array α) (os : Array Obj) : w.grownBy (sortWorldK enc k w g 0 m d os) (some g) := by
  refine ⟨rfl, rfl, rfl, size_sortWorldK_c enc k w g 0 m d os, fun j hj hne => ?_⟩
  unfold sortWorldK Go.Sort.putRowK
  rw [Go.Sort.heap_grow_old _ _ (by simpa [Go.Sort.ahead] using hj)]
  have : g ≠ j := fun e => hne (by rw [e])
  simp [Go.Sort.putRow, Go.Sort.mapBlock, Go.Sort.ahead, Array.getElem?_modify, this]

theorem own_sortK {α : Type} [Inhabited α] {enc : α → List Value} {k : Nat} (hk : ∀ x, (enc x).length = k) {w : World} {B e g c m : Nat} {os : Array Obj} {L M : List α} (hLM : M.length = L.length) (h : w.ownsRow B e k (.slice (some ⟨g, 0, none⟩) L.length c) L.length (L.flatMap enc)) :
    (sortWorldK enc k w g 0 m M.toArray os).ownsRow B e k (.slice (some ⟨g, 0, none⟩) M.length c) M.length (M.flatMap enc) := by
  obtain ⟨hl, hh⟩ := h
  refine ⟨flat_len hk M, ?_⟩
  rcases hh with ⟨hv, -⟩ | ⟨g', cap, cur, hv, hB, hg, hle, hm, hs, ht⟩
  · simp at hv
  · simp only [Value.slice.injEq, Option.some.injEq, Addr.mk.injEq, and_true, true_and] at hv
    obtain ⟨rfl, rfl⟩ := hv
    have hgs : g < w.heap.size := (Array.getElem?_eq_some_iff.1 hg).1
    refine .inr ⟨g, c, Go.Sort.putCells id 0 (Go.Sort.flatK enc k M.toArray) cur, rfl, hB, ?_, by omega, hm, by simp [Go.Sort.putCells, hs], ?_⟩
    · unfold sortWorldK Go.Sort.putRowK
      rw [Go.Sort.heap_grow_old _ _ (by simpa [Go.Sort.ahead] using hgs)]
      simp [Go.Sort.putRow, Go.Sort.mapBlock, Go.Sort.ahead, Array.getElem?_modify, hg, Go.Sort.onCells]
    · rw [← flatK_list hk M]
      have hcs : M.length * k ≤ cur.size := by rw [hs]; exact Nat.mul_le_mul_right k (by omega)
      apply List.ext_getElem?
      intro j
      by_cases hj : j < M.length * k
      · have h3 : j < (Go.Sort.flatK enc k M.toArray).size := by simpa using hj
        rw [List.getElem?_take_of_lt hj, Array.getElem?_toList, Array.getElem?_toList]
        simp only [Go.Sort.putCells, Array.getElem?_mapIdx, Nat.zero_le, true_and, Nat.zero_add, Nat.sub_zero]
        rw [Array.getElem?_eq_getElem (show j < cur.size by omega), Option.map_some, if_pos h3, Array.getElem?_eq_getElem h3, getElem!_pos _ j h3]
        rfl
      · rw [List.getElem?_take_eq_none (by omega), List.getElem?_eq_none (by simpa using hj)]

/-! ### The order of texts -/
theorem cmpB_eq : ∀ (a b : Str), Lib.compareBytes a b = 0 ↔ a = b
  | [], [] => by simp [Lib.compareBytes]
  | [], y :: b => by simp [Lib.compareBytes]
  | x :: a, [] => by simp [Lib.compareBytes]
  | x :: a, y :: b => by
    unfold Lib.compareBytes
    by_cases h : x < y
    · rw [if_pos h]; exact ⟨(fun h => by cases h), fun e => by cases e; exact absurd h (UInt8.lt_irrefl _)⟩
    · rw [if_neg h]
      by_cases h2 : y < x
      · rw [if_pos h2]; exact ⟨(fun h => by cases h), fun e => by cases e; exact absurd h2 (UInt8.lt_irrefl _)⟩
      · rw [if_neg h2, cmpB_eq a b]
        have : x = y := UInt8.le_antisymm (UInt8.not_lt.1 h2) (UInt8.not_lt.1 h)
        subst this
        exact ⟨fun e => by rw [e], fun e => by cases e; rfl⟩
theorem cmpB_lt : ∀ (a b : Str), Lib.compareBytes a b < 0 ↔ a < b
  | [], [] => by simp [Lib.compareBytes]
  | [], y :: b => by simp [Lib.compareBytes]
  | x :: a, [] => by simp [Lib.compareBytes]
  | x :: a, y :: b => by
    unfold Lib.compareBytes
    rw [List.cons_lt_cons_iff]
    by_cases h : x < y
    · rw [if_pos h]; exact ⟨fun _ => .inl h, fun _ => by decide⟩
    · rw [if_neg h]
      by_cases h2 : y < x
      · rw [if_pos h2]
        exact ⟨(fun h => by cases h), fun e => by
          rcases e with e | ⟨e, -⟩
          · exact absurd e h
          · subst e; exact absurd h2 h⟩
      · rw [if_neg h2, cmpB_lt a b]
        have : x = y := UInt8.le_antisymm (UInt8.not_lt.1 h2) (UInt8.not_lt.1 h)
        subst this
        exact ⟨fun e => .inr ⟨rfl, e⟩, fun e => by
          rcases e with e | ⟨-, e⟩
          · exact absurd e h
          · exact e⟩
end Go.Proofs.YtejljmikammcdaaGreatDoor
