/-
  Lists of ops among the arguments, opened by their bulk.
-/
import Derived.Test.YtcljlglmnagodaaOpenD
import Derived.Test.YtcljlglmnagodaaDelZ
namespace Go.Proofs.Ytcljlglmnagodaa
open Go.ChangeShapes Go.WideShapes Go.ChangeAt Go.RowKit Go.Deep

theorem enc_bound (L : List Od) (h : ∀ k ∈ L, k.l.length ≤ 1048576 ∧ i64B k.f ∧ i64B k.z) : (encOps (L.map Od.d)).length ≤ L.length * 1048600 := by
  induction L with
  | nil => simp [encOps]
  | cons k L ih =>
    have h1 := ih fun x hx => h x (List.mem_cons_of_mem _ hx)
    obtain ⟨h2, h3, h4⟩ := h k (List.mem_cons_self ..)
    unfold i64B at h3 h4
    have h5 : k.d.enc.length ≤ 1048600 := by
      unfold Dp.enc
      split
      · have g1 := enc_le10 (v := 2 * k.d.z.toNat + 1) (by show ((2 * k.z.toNat + 1 : Nat)) ≤ _; omega)
        have g2 := enc_le10 (v := k.d.f.toNat) (by show (k.f.toNat) ≤ _; omega)
        rw [List.length_append]; omega
      · have g1 := enc_le10 (v := 2 * k.d.l.length) (by show 2 * k.l.length ≤ _; omega)
        rw [List.length_append]
        have : k.d.l.length = k.l.length := rfl
        omega
    have h6 : (encOps ((k :: L).map Od.d)).length = k.d.enc.length + (encOps (L.map Od.d)).length := by simp [encOps]
    rw [h6, List.length_cons, Nat.add_mul]
    omega
section
variable {W : World} {H : Type} {enc : TypeId × Value → H}
set_option maxRecDepth 100000 in
theorem open_opB {fuel : Nat} {cs : List Value} {x : DataW H × List MemPlace} (h : DataW.trod enc Try.prog W 0 (fun _ => true) true fuel 39 cs = some x) (hx : Rows.uptoBulk x.1 ≤ 1048576) :
    ∃ k : Od, cs = k.cells ∧ k.In W ∧ k.l.length ≤ 1048576 := by
  obtain ⟨xs, n, -, hxe, hl, hxl, hf⟩ := DataW.trod_struct Try.underlying39 h
  have hl3 : cs.length = 3 := hl
  have h0 := hf 0 _ rfl
  have h1 := hf 1 _ rfl
  have h2 := hf 2 _ rfl
  have z0 : (Try.prog).cellsOf 3 = 1 := by kernel_rfl
  have z1 : (Try.prog).cellsOf 26 = 1 := by kernel_rfl
  simp only [List.getElem_toArray, List.getElem_cons_zero, List.getElem_cons_succ] at h0 h1 h2
  rw [z0] at h0 h1
  rw [z1] at h2
  match xs, hxl with
  | [y0, y1, y2], _ =>
    obtain ⟨v0, e0, -, w0⟩ := DataW.trod_int Try.underlying3 h0
    obtain ⟨v1, e1, -, w1⟩ := DataW.trod_int Try.underlying3 h1
    have b0 := bounds_i64' w0
    have b1 := bounds_i64' w1
    match cs, hl3 with
    | [c0, c1, c2], _ =>
      have e0' : c0 = .int .i64 v0 := by simpa using e0
      have e1' : c1 = .int .i64 v1 := by simpa using e1
      subst e0' e1'
      have h2' : DataW.trod enc Try.prog W 0 (fun _ => true) true n 26 [c2] = some y2 := h2
      have hsl : ∃ a n c, c2 = .slice a n c := by
        rcases open_slice Try.underlying26 h2' with ⟨h, -⟩ | ⟨a, n, c, _, _, _, _, h, -⟩
        · exact ⟨none, 0, 0, by simpa using h⟩
        · exact ⟨some a, n, c, by simpa using h⟩
      obtain ⟨a, m, c, rfl⟩ := hsl
      have hb1 : Rows.uptoBulk y2.1 ≤ 1048576 := by
        rw [hxe] at hx
        simp [Rows.uptoBulk, Rows.uptoBulkAll] at hx
        omega
      obtain ⟨l, hb, -⟩ := open_bytes (W := W) (a := a) (n := m) (c := c) Try.underlying26 Try.underlying5 (by kernel_rfl) (by kernel_rfl) (d := y2.1) (p := y2.2) ⟨n, by simpa [Value.cells] using h2'⟩ (fun e1 e2 hd => by
        rw [hd] at hb1
        have := bulk_slice e1 e2
        have e : (Try.prog).bytesOf 5 = 1 := by kernel_rfl
        rw [e]
        simp [reachBytes]; omega)
      have hm : m ≤ 1048576 := by
        rcases open_slice Try.underlying26 h2' with ⟨h, -⟩ | ⟨a', n', c', m', _, D, Pl, h, -, -, -, -, hy, -⟩
        · have h' := h
          simp at h'
          omega
        · rw [hy] at hb1
          have := bulk_slice ((List.range n').map D) ((List.range (m' - n')).map fun j => D (n' + j))
          simp at h this hb1
          omega
      exact ⟨⟨v0, v1, a, m, c, l⟩, rfl, ⟨hb, by show m ≤ _; omega, b0, b1⟩, by have := hb.len; show l.length ≤ _; omega⟩
set_option maxRecDepth 100000 in
theorem open_opsB {a : Option Addr} {n c : Nat} {d : DataW H} {p : List MemPlace} (h : DataW.Trod enc Try.prog W 0 (fun _ => true) true 29 (.slice a n c) d p) (hd : Rows.uptoBulk d ≤ 1048576) :
    ∃ L, Ops W a n c L ∧ n ≤ 1048576 ∧ ∀ k ∈ L, k.l.length ≤ 1048576 := by
  obtain ⟨fuel, hf⟩ := h
  rcases open_slice Try.underlying29 (by simpa [Value.cells] using hf) with ⟨h, -⟩ | ⟨a', n', c', m, fl, D, Pl, h, -, hle, hmax, hm, hy, hel⟩
  · obtain ⟨rfl, rfl, rfl⟩ : a = none ∧ n = 0 ∧ c = 0 := by simpa using h
    exact ⟨[], ⟨rfl, Row.empty W 3, (fun k hk => by cases hk)⟩, by omega, fun k hk => by cases hk⟩
  · obtain ⟨rfl, rfl, rfl⟩ : a = some a' ∧ n = n' ∧ c = c' := by simpa using h
    have hd' : d = .slice ((List.range n).map D) ((List.range (m - n)).map fun j => D (n + j)) := by simpa using congrArg Prod.fst hy
    simp only [if_true] at hm
    have e3 : (Try.prog).cellsOf 39 = 3 := by kernel_rfl
    rw [e3] at hel
    have hsz := bulk_slice ((List.range n).map D) ((List.range (m - n)).map fun j => D (n + j))
    rw [← hd'] at hsz
    simp only [List.length_map, List.length_range] at hsz
    have each : ∀ i, ∃ k : Od, i < n → (W.cells? 0 (a'.add (i * 3)) 3 = some k.cells ∧ k.In W ∧ k.l.length ≤ 1048576) := fun i => by
      by_cases hi : i < n
      · obtain ⟨cs, h1, h2⟩ := hel i (by omega)
        have hb : Rows.uptoBulk (D i) ≤ 1048576 := by
          have h3 : D i ∈ (List.range n).map D := List.mem_map.2 ⟨i, List.mem_range.2 hi, rfl⟩
          have h4 := bulk_le h3
          have h5 : Rows.uptoBulkAll ((List.range n).map D) ≤ Rows.uptoBulk d := by rw [hd']; simp only [Rows.uptoBulk]; omega
          omega
        obtain ⟨k, rfl, h3⟩ := open_opB h2 hb
        exact ⟨k, fun _ => ⟨h1, h3⟩⟩
      · exact ⟨⟨0, 0, none, 0, 0, []⟩, fun h => absurd h hi⟩
    obtain ⟨f, hf⟩ := Classical.axiomOfChoice each
    have hget : ∀ i, i < n → ((List.range n).map f)[i]? = some (f i) := fun i hi => by simp [hi]
    refine ⟨(List.range n).map f, ⟨by simp, ?_, fun k hk => ?_⟩, by omega, fun k hk => ?_⟩
    · refine ⟨?_, hle, hmax, (fun h => nomatch h), fun q hq => ?_, fun q hq j u hj => ?_⟩
      · rw [od_len]; simp
      · cases hq
        by_cases hc : c = 0
        · exact .inl hc
        · obtain ⟨cs, h1, -⟩ := hel 0 (by omega)
          obtain ⟨⟨b, o, hbo⟩, -⟩ := cells_all h1 (by decide)
          right
          rw [Nat.zero_mul, addr_add_zero] at hbo
          exact ⟨b, o, hbo⟩
      · cases hq
        have hlt : j < n * 3 := by
          have h1 := (List.getElem?_eq_some_iff.1 hj).1
          rw [od_len] at h1
          simpa using h1
        have hi : j / 3 < n := by omega
        obtain ⟨h1, -⟩ := hf (j / 3) hi
        obtain ⟨-, -, h2⟩ := cells_all h1 (by decide)
        have h3 := h2 (j % 3) (by omega)
        rw [Go.Deep.add_add, show j / 3 * 3 + j % 3 = j by omega] at h3
        rw [h3, ← od_get (hget _ hi) (j % 3) (by omega), show j / 3 * 3 + j % 3 = j by omega, hj]
    · obtain ⟨i, hi, rfl⟩ := List.mem_map.1 hk
      exact (hf i (List.mem_range.1 hi)).2.1
    · obtain ⟨i, hi, rfl⟩ := List.mem_map.1 hk
      exact (hf i (List.mem_range.1 hi)).2.2
end
end Go.Proofs.Ytcljlglmnagodaa
