/-
  Lists of ints among the arguments, opened.
-/
import Derived.Test.YtpiodpljiklfkaaFrame
import Derived.Test.YtpiodpljiklfkaaGen
import Derived.Deep.Slices
namespace Go.Proofs.Ytpiodpljiklfkaa
open Go.ChangeShapes Go.WideShapes Go.ChangeAt Go.RowKit Go.Deep

theorem bulk_le {H : Type} {d : DataW H} {l : List (DataW H)} (h : d ∈ l) : Rows.uptoBulk d ≤ Rows.uptoBulkAll l := by
  induction l with
  | nil => cases h
  | cons x r ih =>
    simp only [Rows.uptoBulkAll]
    rcases List.mem_cons.1 h with rfl | h
    · omega
    · have := ih h; omega
theorem bulk_pos {H : Type} (d : DataW H) : 1 ≤ Rows.uptoBulk d := by
  cases d with
  | lit l => cases l <;> simp [Rows.uptoBulk]
  | _ => simp [Rows.uptoBulk]
theorem bulk_len {H : Type} (l : List (DataW H)) : l.length ≤ Rows.uptoBulkAll l := by
  induction l with
  | nil => simp [Rows.uptoBulkAll]
  | cons x r ih => have := bulk_pos x; simp only [Rows.uptoBulkAll, List.length_cons]; omega
theorem bulk_slice {H : Type} (x y : List (DataW H)) : x.length + y.length + 1 ≤ Rows.uptoBulk (.slice x y) := by
  have h1 := bulk_len x
  have h2 := bulk_len y
  simp only [Rows.uptoBulk]; omega
theorem bulk_bound {H : Type} {l : List (DataW H)} (hk : Rows.uptoSmall H l = true) : Rows.uptoBulkAll l ≤ 1048576 := of_decide_eq_true hk
theorem addr_add_zero (a : Addr) : a.add 0 = a := by
  obtain ⟨b, o, s⟩ := a
  cases s <;> simp [Addr.add]
theorem cells_all {w : World} {lo : Nat} {a : Addr} {n : Nat} {cs : List Value} (h : w.cells? lo a n = some cs) (hn : 0 < n) : (∃ b o, a = ⟨b, o, none⟩) ∧ cs.length = n ∧ ∀ j, j < n → w.cell? (a.add j) = cs[j]? := by
  obtain ⟨_, hl, hat⟩ := World.cells?_some h
  refine ⟨?_, hl, hat⟩
  have h0 := hat 0 hn
  rw [List.getElem?_eq_getElem (by omega)] at h0
  obtain ⟨b, o, sp⟩ := a
  have hs : sp = none := by simpa [Addr.add] using World.cell?_spot h0
  exact ⟨b, o, by rw [hs]⟩

section
variable {W : World} {H : Type} {enc : TypeId × Value → H}
/-- A list of ints. -/
theorem open_intList {a : Option Addr} {n c : Nat} {d : DataW H} {p : List MemPlace} (h : DataW.Trod enc Try.prog W 0 (fun _ => true) true 36 (.slice a n c) d p) :
    ∃ l : List Int, Row W a n c 1 (l.map (Value.int .i64)) ∧ (∀ x ∈ l, -9223372036854775808 ≤ x ∧ x ≤ 9223372036854775807) ∧ ∀ q, a = some q → 0 < n → q.block < W.heap.size := by
  obtain ⟨fuel, hf⟩ := h
  rcases open_ints Try.underlying36 Try.underlying3 (by kernel_rfl) hf with ⟨hcs, _⟩ | ⟨x, len, cap, zs, hcs, _, hl, hm, hz, hx, hcell, hwz⟩
  · simp [Value.cells] at hcs
    obtain ⟨rfl, rfl, rfl⟩ := hcs
    exact ⟨[], Row.empty W 1, (fun x hx => by cases hx), fun q hq => nomatch hq⟩
  · simp [Value.cells] at hcs
    obtain ⟨rfl, rfl, rfl⟩ := hcs
    simp only [if_true] at hz
    have hat : zs.length = 0 ∨ ∃ b o, x = ⟨b, o, none⟩ := by
      by_cases hn : 0 < zs.length
      · obtain ⟨b, o, hb, _⟩ := ints_at hcell hn
        exact .inr ⟨b, o, hb⟩
      · left; omega
    refine ⟨zs.take n, ⟨by simp; omega, hl, hm, (fun h => nomatch h), (fun q hq => ?_), fun q hq j u hj => ?_⟩, fun z hz' => bounds_i64' (hwz z (List.mem_of_mem_take hz')), fun q hq hn => ?_⟩
    · cases hq
      rcases hat with h | h
      · left; omega
      · exact .inr h
    · cases hq
      rw [List.getElem?_map] at hj
      obtain ⟨z, hz1, rfl⟩ := Option.map_eq_some_iff.1 hj
      have hz2 : zs[j]? = some z := by rw [List.getElem?_take] at hz1; split at hz1 <;> simp_all
      obtain ⟨hjl, hjz⟩ := List.getElem?_eq_some_iff.1 hz2
      rw [hcell j hjl, List.getD_eq_getElem?_getD, hz2]; rfl
    · cases hq
      have h0 := hcell 0 (by omega)
      rw [addr_add_zero] at h0
      exact World.block_lt_of_cell? W _ h0
end
end Go.Proofs.Ytpiodpljiklfkaa
