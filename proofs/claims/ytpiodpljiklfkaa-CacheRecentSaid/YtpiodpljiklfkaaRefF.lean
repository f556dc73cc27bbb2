/-
  The reference's caches: plain laws of without and use.
-/
import Derived.Test.YtpiodpljiklfkaaRefE
namespace Go.Proofs.Ytpiodpljiklfkaa
open Go.RowKit

theorem OkE.subZ {room : Nat} {E E' : List En} (h : OkE room E) (hs : E'.Sublist E) (hz : sizeF E' ≤ sizeF E) : OkE room E' :=
  ⟨fun x hx => h.right x (hs.subset hx), (hs.map En.id).nodup h.apart, Nat.le_trans hz h.fits⟩
/-- A list without its i-th. -/
def cutL (L : List Re) (i : Nat) : List Re := L.take i ++ L.drop (i + 1)
theorem cutL_en (L : List Re) (i : Nat) : (cutL L i).map Re.en = (L.map Re.en).eraseIdx i := by
  unfold cutL
  rw [List.eraseIdx_eq_take_drop_succ, List.map_append, List.map_take, List.map_drop]
theorem cutL_size (E : List En) (i : Nat) : sizeF (E.eraseIdx i) ≤ sizeF E := by
  rw [List.eraseIdx_eq_take_drop_succ, sizeF_app]
  have h := sizeF_app (E.take i) (E.drop i)
  rw [List.take_append_drop] at h
  have h2 : sizeF (E.drop (i + 1)) ≤ sizeF (E.drop i) := by
    rw [← List.drop_drop]
    cases E.drop i with
    | nil => exact Nat.le_refl _
    | cons x D => simp only [List.drop_succ_cons, List.drop_zero, sizeF]; omega
  omega
theorem OkE.cut {room : Nat} {L : List Re} (h : OkE room (L.map Re.en)) (i : Nat) : OkE room ((cutL L i).map Re.en) := by
  rw [cutL_en]
  exact h.subZ (List.eraseIdx_sublist _ _) (cutL_size _ _)
theorem cutL_mem {L : List Re} {i : Nat} {k : Re} (h : k ∈ cutL L i) : k ∈ L := by
  rcases List.mem_append.1 h with h | h
  · exact List.mem_of_mem_take h
  · exact List.mem_of_mem_drop h
theorem cutL_use {L : List Re} {i : Nat} {y : Re} (h : L[i]? = some y) : (cutL L i ++ [y]).map Re.en = useF (L.map Re.en) i := by
  unfold useF
  rw [List.map_append, cutL_en, List.getElem?_map, h]
  rfl
end Go.Proofs.Ytpiodpljiklfkaa
