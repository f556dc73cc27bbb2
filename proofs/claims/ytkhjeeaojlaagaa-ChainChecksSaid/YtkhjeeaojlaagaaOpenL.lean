/-
  Lists of links among the arguments, opened.
-/
import Derived.Test.YtkhjeeaojlaagaaOpenO
import Derived.Test.YtkhjeeaojlaagaaChaA
namespace Go.Proofs.Ytkhjeeaojlaagaa
open Go.ChangeShapes Go.WideShapes Go.ChangeAt Go.RowKit Go.Deep

section
variable {W : World} {H : Type} {enc : TypeId × Value → H}
set_option maxRecDepth 100000 in
theorem open_link {fuel : Nat} {cs : List Value} {x : DataW H × List MemPlace} (h : DataW.trod enc Try.prog W 0 (fun _ => true) true fuel 45 cs = some x) (hx : ∀ q ∈ x.1.weights Try.prog 45, q ≤ reachBytes) :
    ∃ k : Lk, cs = k.cells ∧ k.In W := by
  obtain ⟨xs, n, -, hxe, hl, hxl, hf⟩ := DataW.trod_struct Try.underlying45 h
  have hl2 : cs.length = 2 := hl
  have h0 := hf 0 _ rfl
  have h1 := hf 1 _ rfl
  have z0 : (Try.prog).cellsOf 3 = 1 := by kernel_rfl
  have z1 : (Try.prog).cellsOf 28 = 1 := by kernel_rfl
  simp only [List.getElem_toArray, List.getElem_cons_zero, List.getElem_cons_succ] at h0 h1
  rw [z0] at h0
  rw [z1] at h1
  match xs, hxl with
  | [y0, y1], _ =>
    obtain ⟨v0, e0, -, w0⟩ := DataW.trod_int Try.underlying3 h0
    have b0 := bounds_i64' w0
    match cs, hl2 with
    | [c0, c1], _ =>
      have e0' : c0 = .int .i64 v0 := by simpa using e0
      subst e0'
      have h2' : DataW.trod enc Try.prog W 0 (fun _ => true) true n 28 [c1] = some y1 := h1
      have hsl : ∃ a n c, c1 = .slice a n c := by
        rcases open_slice Try.underlying28 h2' with ⟨h, -⟩ | ⟨a, n, c, _, _, _, _, h, -⟩
        · exact ⟨none, 0, 0, by simpa using h⟩
        · exact ⟨some a, n, c, by simpa using h⟩
      obtain ⟨a, m, c, rfl⟩ := hsl
      have hw2 : ∀ q ∈ y1.1.weights Try.prog 28, q ≤ reachBytes := fun q hq => by
        refine hx q ?_
        rw [hxe]
        simp [DataW.weights, DataW.weightsEach, Try.underlying45, hq]
      obtain ⟨l, hb, hm⟩ := open_bytes (W := W) (a := a) (n := m) (c := c) Try.underlying28 Try.underlying5 (by kernel_rfl) (by kernel_rfl) (d := y1.1) (p := y1.2) ⟨n, by simpa [Value.cells] using h2'⟩ (fun e1 e2 hd => by
        refine hw2 _ ?_
        rw [hd]
        simp [DataW.weights, Try.underlying28])
      exact ⟨⟨v0, a, m, c, l⟩, rfl, hb, by show m ≤ _; omega, b0⟩
set_option maxRecDepth 100000 in
theorem open_links {a : Option Addr} {n c : Nat} {d : DataW H} {p : List MemPlace} (h : DataW.Trod enc Try.prog W 0 (fun _ => true) true 26 (.slice a n c) d p) (hd : ∀ q ∈ d.weights Try.prog 26, q ≤ reachBytes) :
    ∃ L, Links W a n c L ∧ n * 32 ≤ 140737488351232 := by
  obtain ⟨fuel, hf⟩ := h
  rcases open_slice Try.underlying26 (by simpa [Value.cells] using hf) with ⟨h, -⟩ | ⟨a', n', c', m, fl, D, Pl, h, -, hle, hmax, hm, hy, hel⟩
  · obtain ⟨rfl, rfl, rfl⟩ : a = none ∧ n = 0 ∧ c = 0 := by simpa using h
    exact ⟨[], ⟨rfl, Row.empty W 2, (fun k hk => by cases hk)⟩, by omega⟩
  · obtain ⟨rfl, rfl, rfl⟩ : a = some a' ∧ n = n' ∧ c = c' := by simpa using h
    have hd' : d = .slice ((List.range n).map D) ((List.range (m - n)).map fun j => D (n + j)) := by simpa using congrArg Prod.fst hy
    simp only [if_true] at hm
    have e3 : (Try.prog).cellsOf 45 = 2 := by kernel_rfl
    have e40 : (Try.prog).bytesOf 45 = 32 := by kernel_rfl
    rw [e3] at hel
    have hsz : n * 32 ≤ 140737488351232 := by
      have h1 := hd (((List.range n).map D).length * 32 + ((List.range (m - n)).map fun j => D (n + j)).length * 32) (by
        rw [hd', ← Nat.add_mul, ← e40]
        simp [DataW.weights, Try.underlying26])
      simp only [List.length_map, List.length_range, reachBytes] at h1
      omega
    have each : ∀ i, ∃ k : Lk, i < n → (W.cells? 0 (a'.add (i * 2)) 2 = some k.cells ∧ k.In W) := fun i => by
      by_cases hi : i < n
      · obtain ⟨cs, h1, h2⟩ := hel i (by omega)
        have hb : ∀ q ∈ (D i).weights Try.prog 45, q ≤ reachBytes := fun q hq => by
          refine hd q ?_
          have h3 := weights_all_mem (P := Try.prog) (l := (List.range n).map D) (List.mem_map.2 ⟨i, List.mem_range.2 hi, rfl⟩) q hq
          rw [hd']
          simp only [DataW.weights, Try.underlying26, List.mem_cons, List.mem_append]
          exact .inr (.inl h3)
        obtain ⟨k, rfl, h3⟩ := open_link h2 hb
        exact ⟨k, fun _ => ⟨h1, h3⟩⟩
      · exact ⟨⟨0, none, 0, 0, []⟩, fun h => absurd h hi⟩
    obtain ⟨f, hf⟩ := Classical.axiomOfChoice each
    have hget : ∀ i, i < n → ((List.range n).map f)[i]? = some (f i) := fun i hi => by simp [hi]
    refine ⟨(List.range n).map f, ⟨by simp, ?_, fun k hk => ?_⟩, hsz⟩
    · refine ⟨?_, hle, hmax, (fun h => nomatch h), fun q hq => ?_, fun q hq j u hj => ?_⟩
      · rw [lk_len]; simp
      · cases hq
        by_cases hc : c = 0
        · exact .inl hc
        · obtain ⟨cs, h1, -⟩ := hel 0 (by omega)
          obtain ⟨⟨b, o, hbo⟩, -⟩ := cells_all h1 (by decide)
          right
          rw [Nat.zero_mul, addr_add_zero] at hbo
          exact ⟨b, o, hbo⟩
      · cases hq
        have hlt : j < n * 2 := by
          have h1 := (List.getElem?_eq_some_iff.1 hj).1
          rw [lk_len] at h1
          simpa using h1
        have hi : j / 2 < n := by omega
        obtain ⟨h1, -⟩ := hf (j / 2) hi
        obtain ⟨-, -, h2⟩ := cells_all h1 (by decide)
        have h3 := h2 (j % 2) (by omega)
        rw [Go.Deep.add_add, show j / 2 * 2 + j % 2 = j by omega] at h3
        rw [h3, ← lk_get (hget _ hi) (j % 2) (by omega), show j / 2 * 2 + j % 2 = j by omega, hj]
    · obtain ⟨i, hi, rfl⟩ := List.mem_map.1 hk
      exact (hf i (List.mem_range.1 hi)).2
end
end Go.Proofs.Ytkhjeeaojlaagaa
