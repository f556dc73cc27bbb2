/-
  A byte slice of bounded bulk, opened.
-/
import Derived.Test.YtncdcpaelecikaaOpen
namespace Go.Proofs.Ytncdcpaelecikaa
open Go.ChangeShapes Go.WideShapes Go.ChangeAt Go.RowKit Go.Deep

set_option maxRecDepth 100000 in
theorem open_bytesU {W : World} {H : Type} {enc : TypeId × Value → H} {a : Option Addr} {n c : Nat} {d : DataW H} {p : List MemPlace} (h : DataW.Trod enc Try.prog W 0 (fun _ => true) true 28 (.slice a n c) d p) (hd : Rows.uptoBulk d ≤ 1048576) :
    ∃ l, Bytes W a n c l ∧ n ≤ 1048576 := by
  obtain ⟨l, hb, -⟩ := open_bytes Try.underlying28 Try.underlying5 (by kernel_rfl) (by kernel_rfl) h (fun e1 e2 he => by
    rw [he] at hd
    have := bulk_slice e1 e2
    have e : (Try.prog).bytesOf 5 = 1 := by kernel_rfl
    rw [e]
    simp [reachBytes]; omega)
  obtain ⟨fuel, hf⟩ := h
  refine ⟨l, hb, ?_⟩
  rcases open_slice Try.underlying28 (by simpa [Value.cells] using hf) with ⟨h, -⟩ | ⟨a', n', c', m', _, D, Pl, h, -, -, -, -, hy, -⟩
  · have h' : a = none ∧ n = 0 ∧ c = 0 := by simpa using h
    omega
  · obtain ⟨-, rfl, -⟩ : a = some a' ∧ n = n' ∧ c = c' := by simpa using h
    have hd' : d = .slice ((List.range n).map D) ((List.range (m' - n)).map fun j => D (n + j)) := by simpa using congrArg Prod.fst hy
    rw [hd'] at hd
    have := bulk_slice ((List.range n).map D) ((List.range (m' - n)).map fun j => D (n + j))
    simp only [List.length_map, List.length_range] at this
    omega
end Go.Proofs.Ytncdcpaelecikaa
