/-
  An argument that is a list of chunks, opened.
-/
import Derived.Test.YtncdcpaelecikaaPackK
import Derived.Test.YtncdcpaelecikaaFrame
import Derived.Deep.Slices
namespace Go.Proofs.Ytncdcpaelecikaa
open Go.ChangeShapes Go.WideShapes Go.ChangeAt Go.RowKit Go.Deep

theorem bulk_le {H : Type} {d : DataW H} {l : List (DataW H)} (h : d ∈ l) : Rows.uptoBulk d ≤ Rows.uptoBulkAll l := by
  induction l with
  | nil => cases h
  | cons x r ih =>
    simp only [Rows.uptoBulkAll]
    rcases List.mem_cons.1 h with rfl | h
    · omega
    · have := ih h; omega
theorem bulk_pos {H : Type} (d : DataW H) : 1 ≤ Rows.uptoBulk d := by
  cases d with
  | lit l => cases l <;> simp [Rows.uptoBulk]
  | _ => simp [Rows.uptoBulk]
theorem bulk_len {H : Type} (l : List (DataW H)) : l.length ≤ Rows.uptoBulkAll l := by
  induction l with
  | nil => simp [Rows.uptoBulkAll]
  | cons x r ih => have := bulk_pos x; simp only [Rows.uptoBulkAll, List.length_cons]; omega
theorem bulk_slice {H : Type} (x y : List (DataW H)) : x.length + y.length + 1 ≤ Rows.uptoBulk (.slice x y) := by
  have h1 := bulk_len x
  have h2 := bulk_len y
  simp only [Rows.uptoBulk]; omega
theorem bulk_bound {H : Type} {l : List (DataW H)} (hk : Rows.uptoSmall H l = true) : Rows.uptoBulkAll l ≤ 1048576 := of_decide_eq_true hk

theorem ck_cells_len (L : List Ck) : (L.flatMap Ck.cells).length = L.length * 3 := by
  induction L with
  | nil => rfl
  | cons k L ih => rw [List.flatMap_cons, List.length_append, ih, List.length_cons]; simp [Ck.cells]; omega
theorem addr_add_zero (a : Addr) : a.add 0 = a := by
  obtain ⟨b, o, s⟩ := a
  cases s <;> simp [Addr.add]
theorem frames_bound {n : Nat} {L : List Ck} (hl : L.length = n) (hn : n ≤ 1048576) (h : ∀ k ∈ L, k.l.length ≤ 1048576 ∧ (k.s : Int) ≤ 18446744073709551615 ∧ k.z ≤ 9223372036854775807) : (frames L).length ≤ 100000000000000 := by
  have h1 := frames_le 1048576 L h
  have : L.length * (1048576 + 21) ≤ 1048576 * (1048576 + 21) := Nat.mul_le_mul_right _ (by omega)
  omega
theorem cells_all {w : World} {lo : Nat} {a : Addr} {n : Nat} {cs : List Value} (h : w.cells? lo a n = some cs) (hn : 0 < n) : (∃ b o, a = ⟨b, o, none⟩) ∧ cs.length = n ∧ ∀ j, j < n → w.cell? (a.add j) = cs[j]? := by
  obtain ⟨_, hl, hat⟩ := World.cells?_some h
  refine ⟨?_, hl, hat⟩
  have h0 := hat 0 hn
  rw [List.getElem?_eq_getElem (by omega)] at h0
  obtain ⟨b, o, sp⟩ := a
  have hs : sp = none := by simpa [Addr.add] using World.cell?_spot h0
  exact ⟨b, o, by rw [hs]⟩

section
variable {W : World} {H : Type} {enc : TypeId × Value → H}
set_option maxRecDepth 100000 in
theorem open_id {fuel : Nat} {cs : List Value} {x : DataW H × List MemPlace} (h : DataW.trod enc Try.prog W 0 (fun _ => true) true fuel 44 cs = some x) :
    ∃ (s : Nat) (z : Int), cs = [.int .u64 s, .int .i64 z] ∧ (s : Int) ≤ 18446744073709551615 ∧ -9223372036854775808 ≤ z ∧ z ≤ 9223372036854775807 := by
  obtain ⟨xs, n, -, -, hl, hxl, hf⟩ := DataW.trod_struct Try.underlying44 h
  have hl2 : cs.length = 2 := hl
  have h0 := hf 0 _ rfl
  have h1 := hf 1 _ rfl
  have z0 : (Try.prog).cellsOf 42 = 1 := by kernel_rfl
  have z1 : (Try.prog).cellsOf 3 = 1 := by kernel_rfl
  simp only [List.getElem_toArray, List.getElem_cons_zero, List.getElem_cons_succ] at h0 h1
  rw [z0] at h0
  rw [z1] at h1
  match xs, hxl with
  | [y0, y1], _ =>
    obtain ⟨v0, e0, -, w0⟩ := DataW.trod_int Try.underlying42 h0
    obtain ⟨v1, e1, -, w1⟩ := DataW.trod_int Try.underlying3 h1
    have b0 := bounds_u64' w0
    have b1 := bounds_i64' w1
    match cs, hl2 with
    | [c0, c1], _ =>
      have e0' : c0 = .int .u64 v0 := by simpa using e0
      have e1' : c1 = .int .i64 v1 := by simpa using e1
      exact ⟨v0.toNat, v1, by rw [e0', e1']; congr 2; omega, by omega, b1.1, b1.2⟩
set_option maxRecDepth 100000 in
theorem open_chunk {fuel : Nat} {cs : List Value} {x : DataW H × List MemPlace} (h : DataW.trod enc Try.prog W 0 (fun _ => true) true fuel 46 cs = some x) (hx : Rows.uptoBulk x.1 ≤ 1048576) :
    ∃ k : Ck, cs = k.cells ∧ k.In W ∧ k.l.length ≤ 1048576 ∧ k.z ≤ 9223372036854775807 := by
  obtain ⟨xs, n, -, hxe, hl, hxl, hf⟩ := DataW.trod_struct Try.underlying46 h
  have hl3 : cs.length = 3 := hl
  have h0 := hf 0 _ rfl
  have h1 := hf 1 _ rfl
  have z0 : (Try.prog).cellsOf 44 = 2 := by kernel_rfl
  have z1 : (Try.prog).cellsOf 28 = 1 := by kernel_rfl
  simp only [List.getElem_toArray, List.getElem_cons_zero, List.getElem_cons_succ] at h0 h1
  rw [z0] at h0
  rw [z1] at h1
  match xs, hxl with
  | [y0, y1], _ =>
    match cs, hl3 with
    | [c0, c1, c2], _ =>
      obtain ⟨s, z, hs, hs1, -, hz2⟩ := open_id h0
      obtain ⟨rfl, rfl⟩ : c0 = .int .u64 s ∧ c1 = .int .i64 z := by simpa using hs
      have h1' : DataW.trod enc Try.prog W 0 (fun _ => true) true n 28 [c2] = some y1 := h1
      have hsl : ∃ a n c, c2 = .slice a n c := by
        rcases open_slice Try.underlying28 h1' with ⟨h, -⟩ | ⟨a, n, c, _, _, _, _, h, -⟩
        · exact ⟨none, 0, 0, by simpa using h⟩
        · exact ⟨some a, n, c, by simpa using h⟩
      obtain ⟨a, m, c, rfl⟩ := hsl
      have hb1 : Rows.uptoBulk y1.1 ≤ 1048576 := by
        rw [hxe] at hx
        simp [Rows.uptoBulk, Rows.uptoBulkAll] at hx
        omega
      obtain ⟨l, hb, -⟩ := open_bytes (W := W) (a := a) (n := m) (c := c) Try.underlying28 Try.underlying5 (by kernel_rfl) (by kernel_rfl) (d := y1.1) (p := y1.2) ⟨n, by simpa [Value.cells] using h1'⟩ (fun e1 e2 hd => by
        rw [hd] at hb1
        have := bulk_slice e1 e2
        have e : (Try.prog).bytesOf 5 = 1 := by kernel_rfl
        rw [e]
        simp [reachBytes]; omega)
      have hm : m ≤ 1048576 := by
        rcases open_slice Try.underlying28 h1' with ⟨h, -⟩ | ⟨a', n', c', m', _, D, Pl, h, -, -, -, -, hy, -⟩
        · have h' := h
          simp at h'
          omega
        · rw [hy] at hb1
          have := bulk_slice ((List.range n').map D) ((List.range (m' - n')).map fun j => D (n' + j))
          simp at h this hb1
          omega
      exact ⟨⟨s, z, a, m, c, l⟩, rfl, ⟨hb, by show m ≤ _; omega, hs1⟩, by have := hb.len; show l.length ≤ _; omega, hz2⟩
set_option maxRecDepth 100000 in
theorem open_chunks {a : Option Addr} {n c : Nat} {d : DataW H} {p : List MemPlace} (h : DataW.Trod enc Try.prog W 0 (fun _ => true) true 22 (.slice a n c) d p) (hd : Rows.uptoBulk d ≤ 1048576) :
    ∃ L, Chunks W a n c L ∧ n ≤ 1048576 ∧ ∀ k ∈ L, k.l.length ≤ 1048576 ∧ (k.s : Int) ≤ 18446744073709551615 ∧ k.z ≤ 9223372036854775807 := by
  obtain ⟨fuel, hf⟩ := h
  rcases open_slice Try.underlying22 (by simpa [Value.cells] using hf) with ⟨h, -⟩ | ⟨a', n', c', m, fl, D, Pl, h, -, hle, hmax, hm, hy, hel⟩
  · obtain ⟨rfl, rfl, rfl⟩ : a = none ∧ n = 0 ∧ c = 0 := by simpa using h
    exact ⟨[], ⟨rfl, Row.empty W 3, (fun k hk => by cases hk)⟩, by omega, fun k hk => by cases hk⟩
  · obtain ⟨rfl, rfl, rfl⟩ : a = some a' ∧ n = n' ∧ c = c' := by simpa using h
    have hd' : d = .slice ((List.range n).map D) ((List.range (m - n)).map fun j => D (n + j)) := by simpa using congrArg Prod.fst hy
    simp only [if_true] at hm
    have e3 : (Try.prog).cellsOf 46 = 3 := by kernel_rfl
    rw [e3] at hel
    have hsz := bulk_slice ((List.range n).map D) ((List.range (m - n)).map fun j => D (n + j))
    rw [← hd'] at hsz
    simp only [List.length_map, List.length_range] at hsz
    have each : ∀ i, ∃ k : Ck, i < n → (W.cells? 0 (a'.add (i * 3)) 3 = some k.cells ∧ k.In W ∧ k.l.length ≤ 1048576 ∧ k.z ≤ 9223372036854775807) := fun i => by
      by_cases hi : i < n
      · obtain ⟨cs, h1, h2⟩ := hel i (by omega)
        have hb : Rows.uptoBulk (D i) ≤ 1048576 := by
          have h3 : D i ∈ (List.range n).map D := List.mem_map.2 ⟨i, List.mem_range.2 hi, rfl⟩
          have h4 := bulk_le h3
          have h5 : Rows.uptoBulkAll ((List.range n).map D) ≤ Rows.uptoBulk d := by rw [hd']; simp only [Rows.uptoBulk]; omega
          omega
        obtain ⟨k, rfl, h3⟩ := open_chunk h2 hb
        exact ⟨k, fun _ => ⟨h1, h3⟩⟩
      · exact ⟨⟨0, 0, none, 0, 0, []⟩, fun h => absurd h hi⟩
    obtain ⟨f, hf⟩ := Classical.axiomOfChoice each
    have hget : ∀ i, i < n → ((List.range n).map f)[i]? = some (f i) := fun i hi => by simp [hi]
    refine ⟨(List.range n).map f, ⟨by simp, ?_, fun k hk => ?_⟩, by omega, fun k hk => ?_⟩
    · refine ⟨?_, hle, hmax, (fun h => nomatch h), fun q hq => ?_, fun q hq j u hj => ?_⟩
      · rw [ck_cells_len]; simp
      · cases hq
        by_cases hc : c = 0
        · exact .inl hc
        · obtain ⟨cs, h1, -⟩ := hel 0 (by omega)
          obtain ⟨⟨b, o, hbo⟩, -⟩ := cells_all h1 (by decide)
          right
          rw [Nat.zero_mul, addr_add_zero] at hbo
          exact ⟨b, o, hbo⟩
      · cases hq
        have hlt : j < n * 3 := by
          have h1 := (List.getElem?_eq_some_iff.1 hj).1
          rw [ck_cells_len] at h1
          simpa using h1
        have hi : j / 3 < n := by omega
        obtain ⟨h1, -⟩ := hf (j / 3) hi
        obtain ⟨-, -, h2⟩ := cells_all h1 (by decide)
        have h3 := h2 (j % 3) (by omega)
        rw [Go.Deep.add_add, show j / 3 * 3 + j % 3 = j by omega] at h3
        rw [h3, ← cells_get (hget _ hi) (j % 3) (by omega), show j / 3 * 3 + j % 3 = j by omega, hj]
    · obtain ⟨i, hi, rfl⟩ := List.mem_map.1 hk
      exact (hf i (List.mem_range.1 hi)).2.1
    · obtain ⟨i, hi, rfl⟩ := List.mem_map.1 hk
      obtain ⟨-, h1, h2, h3⟩ := hf i (List.mem_range.1 hi)
      exact ⟨h2, h1.2.2, h3⟩

/-- A list of ints. -/
theorem open_intList {a : Option Addr} {n c : Nat} {d : DataW H} {p : List MemPlace} (h : DataW.Trod enc Try.prog W 0 (fun _ => true) true 23 (.slice a n c) d p) :
    ∃ l : List Int, Row W a n c 1 (l.map (Value.int .i64)) ∧ (∀ x ∈ l, -9223372036854775808 ≤ x ∧ x ≤ 9223372036854775807) ∧ ∀ q, a = some q → 0 < n → q.block < W.heap.size := by
  obtain ⟨fuel, hf⟩ := h
  rcases open_ints Try.underlying23 Try.underlying3 (by kernel_rfl) hf with ⟨hcs, _⟩ | ⟨x, len, cap, zs, hcs, _, hl, hm, hz, hx, hcell, hwz⟩
  · simp [Value.cells] at hcs
    obtain ⟨rfl, rfl, rfl⟩ := hcs
    exact ⟨[], Row.empty W 1, (fun x hx => by cases hx), fun q hq => nomatch hq⟩
  · simp [Value.cells] at hcs
    obtain ⟨rfl, rfl, rfl⟩ := hcs
    simp only [if_true] at hz
    have hat : zs.length = 0 ∨ ∃ b o, x = ⟨b, o, none⟩ := by
      by_cases hn : 0 < zs.length
      · obtain ⟨b, o, hb, _⟩ := ints_at hcell hn
        exact .inr ⟨b, o, hb⟩
      · left; omega
    refine ⟨zs.take n, ⟨by simp; omega, hl, hm, (fun h => nomatch h), (fun q hq => ?_), fun q hq j u hj => ?_⟩, fun z hz' => bounds_i64' (hwz z (List.mem_of_mem_take hz')), fun q hq hn => ?_⟩
    · cases hq
      rcases hat with h | h
      · left; omega
      · exact .inr h
    · cases hq
      rw [List.getElem?_map] at hj
      obtain ⟨z, hz1, rfl⟩ := Option.map_eq_some_iff.1 hj
      have hz2 : zs[j]? = some z := by rw [List.getElem?_take] at hz1; split at hz1 <;> simp_all
      obtain ⟨hjl, hjz⟩ := List.getElem?_eq_some_iff.1 hz2
      rw [hcell j hjl, List.getD_eq_getElem?_getD, hz2]; rfl
    · cases hq
      have h0 := hcell 0 (by omega)
      rw [addr_add_zero] at h0
      exact World.block_lt_of_cell? W _ h0
end
end Go.Proofs.Ytncdcpaelecikaa
