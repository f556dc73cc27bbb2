/-
  Lists of lines among the arguments, opened by their bulk.
-/
import Derived.Test.YtejljmikammcdaaGreatDoorTpD
import Derived.Deep.Slices
namespace Go.Proofs.YtejljmikammcdaaGreatDoor
open Go.ChangeShapes Go.WideShapes Go.ChangeAt Go.RowKit Go.Deep

theorem bulk_le {H : Type} {d : DataW H} {l : List (DataW H)} (h : d ∈ l) : Rows.uptoBulk d ≤ Rows.uptoBulkAll l := by
  induction l with
  | nil => cases h
  | cons x r ih =>
    simp only [Rows.uptoBulkAll]
    rcases List.mem_cons.1 h with rfl | h
    · omega
    · have := ih h; omega
theorem bulk_bound {H : Type} {l : List (DataW H)} (hk : Rows.uptoSmall H l = true) : Rows.uptoBulkAll l ≤ 1048576 := of_decide_eq_true hk
theorem addr_add_zero (a : Addr) : a.add 0 = a := by
  obtain ⟨b, o, s⟩ := a
  cases s <;> simp [Addr.add]
theorem cells_all {w : World} {lo : Nat} {a : Addr} {n : Nat} {cs : List Value} (h : w.cells? lo a n = some cs) (hn : 0 < n) : (∃ b o, a = ⟨b, o, none⟩) ∧ cs.length = n ∧ ∀ j, j < n → w.cell? (a.add j) = cs[j]? := by
  obtain ⟨_, hl, hat⟩ := World.cells?_some h
  refine ⟨?_, hl, hat⟩
  have h0 := hat 0 hn
  rw [List.getElem?_eq_getElem (by omega)] at h0
  obtain ⟨b, o, sp⟩ := a
  have hs : sp = none := by simpa [Addr.add] using World.cell?_spot h0
  exact ⟨b, o, by rw [hs]⟩

section
variable {W : World} {H : Type} {enc : TypeId × Value → H}
theorem open_listB {α : Type} {f : α → List Value} {s : Nat} {Good : α → Prop} (hf : ∀ x, (f x).length = s) (hs : 0 < s) (x0 : α) {t e : TypeId} (hu : Tryz.prog.underlying t = some (.slice e)) (he : (Tryz.prog).cellsOf e = s)
    (el : ∀ {fuel : Nat} {cs : List Value} {x : DataW H × List MemPlace}, DataW.trod enc Tryz.prog W 0 (fun _ => true) true fuel e cs = some x → Rows.uptoBulk x.1 ≤ 1048576 → ∃ k : α, cs = f k ∧ Good k)
    {fuel : Nat} {cs : List Value} {x : DataW H × List MemPlace} (h : DataW.trod enc Tryz.prog W 0 (fun _ => true) true fuel t cs = some x) (hd : Rows.uptoBulk x.1 ≤ 1048576) :
    ∃ (a : Option Addr) (c : Nat) (L : List α), cs = [.slice a L.length c] ∧ Row W a L.length c s (L.flatMap f) ∧ (∀ k ∈ L, Good k) := by
  rcases open_slice hu h with ⟨h, -⟩ | ⟨a', n, c, m, fl, D, Pl, h, -, hle, hmax, hm, hy, hel⟩
  · exact ⟨none, 0, [], h, Row.empty W s, fun k hk => by cases hk⟩
  · have hd' : x.1 = .slice ((List.range n).map D) ((List.range (m - n)).map fun j => D (n + j)) := congrArg Prod.fst hy
    simp only [if_true] at hm
    rw [he] at hel
    have each : ∀ i, ∃ k : α, i < n → (W.cells? 0 (a'.add (i * s)) s = some (f k) ∧ Good k) := fun i => by
      by_cases hi : i < n
      · obtain ⟨cs, h1, h2⟩ := hel i (by omega)
        have hb : Rows.uptoBulk (D i) ≤ 1048576 := by
          have h3 : D i ∈ (List.range n).map D := List.mem_map.2 ⟨i, List.mem_range.2 hi, rfl⟩
          have h4 := bulk_le h3
          have h5 : Rows.uptoBulkAll ((List.range n).map D) ≤ Rows.uptoBulk x.1 := by rw [hd']; simp only [Rows.uptoBulk]; omega
          omega
        obtain ⟨k, rfl, h3⟩ := el h2 hb
        exact ⟨k, fun _ => ⟨h1, h3⟩⟩
      · exact ⟨x0, fun h => absurd h hi⟩
    obtain ⟨g, hg⟩ := Classical.axiomOfChoice each
    have hget : ∀ i, i < n → ((List.range n).map g)[i]? = some (g i) := fun i hi => by simp [hi]
    have hlen : ((List.range n).map g).length = n := by simp
    refine ⟨some a', c, (List.range n).map g, by rw [hlen]; exact h, ?_, fun k hk => ?_⟩
    · rw [hlen]
      refine ⟨?_, hle, hmax, (fun h => nomatch h), fun q hq => ?_, fun q hq j u hj => ?_⟩
      · rw [flat_len hf, hlen]
      · cases hq
        by_cases hc : c = 0
        · exact .inl hc
        · obtain ⟨cs, h1, -⟩ := hel 0 (by omega)
          obtain ⟨⟨b, o, hbo⟩, -⟩ := cells_all h1 hs
          right
          rw [Nat.zero_mul, addr_add_zero] at hbo
          exact ⟨b, o, hbo⟩
      · cases hq
        have hlt : j < n * s := by
          have h1 := (List.getElem?_eq_some_iff.1 hj).1
          rw [flat_len hf, hlen] at h1
          exact h1
        have hi : j / s < n := Nat.div_lt_of_lt_mul (by rw [Nat.mul_comm]; exact hlt)
        have hmod : j % s < s := Nat.mod_lt _ hs
        have hjs : j / s * s + j % s = j := by rw [Nat.mul_comm]; exact Nat.div_add_mod j s
        obtain ⟨h1, -⟩ := hg (j / s) hi
        obtain ⟨-, -, h2⟩ := cells_all h1 hs
        have h3 := h2 (j % s) hmod
        rw [Go.Deep.add_add, hjs] at h3
        rw [h3, ← flat_get hf (hget _ hi) (j % s) hmod, hjs, hj]
    · obtain ⟨i, hi, rfl⟩ := List.mem_map.1 hk
      exact (hg i (List.mem_range.1 hi)).2
theorem open_strB {fuel : Nat} {cs : List Value} {x : DataW H × List MemPlace} (h : DataW.trod enc Tryz.prog W 0 (fun _ => true) true fuel 9 cs = some x) (hx : Rows.uptoBulk x.1 ≤ 1048576) : ∃ s : Str, cs = [sv s] ∧ s.length ≤ 1048576 := by
  obtain ⟨s, rfl, rfl, -⟩ := DataW.trod_string Tryz.underlying9 h
  refine ⟨s.data.toList, ?_, ?_⟩
  · rw [show sv s.data.toList = .string s from congrArg Value.string (bs_ext (by rw [bs_data]))]
  · simp [Rows.uptoBulk] at hx
    simp
    omega
theorem strs_flat (L : List Str) : (L.flatMap fun s => [sv s]) = L.map sv := by
  induction L with
  | nil => rfl
  | cons x L ih => rw [List.flatMap_cons, ih]; rfl
set_option maxRecDepth 100000 in
theorem open_patB {fuel : Nat} {cs : List Value} {x : DataW H × List MemPlace} (h : DataW.trod enc Tryz.prog W 0 (fun _ => true) true fuel 39 cs = some x) (hx : Rows.uptoBulk x.1 ≤ 1048576) :
    ∃ k : Pt, cs = k.cells ∧ PtI W 1048576 k := by
  obtain ⟨xs, n, -, hxe, hl, hxl, hf⟩ := DataW.trod_struct Tryz.underlying39 h
  have hl2 : cs.length = 2 := hl
  have h0 := hf 0 _ rfl
  have h1 := hf 1 _ rfl
  have z0 : (Tryz.prog).cellsOf 37 = 1 := by kernel_rfl
  have z1 : (Tryz.prog).cellsOf 4 = 1 := by kernel_rfl
  simp only [List.getElem_toArray, List.getElem_cons_zero, List.getElem_cons_succ] at h0 h1
  rw [z0] at h0
  rw [z1] at h1
  match xs, hxl with
  | [y0, y1], _ =>
    match cs, hl2 with
    | [c0, c1], _ =>
      obtain ⟨b, e1, -⟩ := DataW.trod_bool Tryz.underlying4 h1
      have e1' : c1 = .bool b := by simpa using e1
      subst e1'
      have h0' : DataW.trod enc Tryz.prog W 0 (fun _ => true) true n 37 [c0] = some y0 := h0
      have hb : Rows.uptoBulk y0.1 ≤ 1048576 := by
        rw [hxe] at hx
        simp [Rows.uptoBulk, Rows.uptoBulkAll] at hx
        omega
      obtain ⟨a, c, L, hc, hr, hg⟩ := open_listB (f := fun s : Str => [sv s]) (s := 1) (Good := fun s : Str => s.length ≤ 1048576) (fun _ => rfl) (by decide) [] Tryz.underlying37 (by kernel_rfl) (fun h hx => open_strB h hx) h0' hb
      rw [strs_flat] at hr
      have hc' : c0 = .slice a L.length c := by simpa using hc
      subst hc'
      exact ⟨⟨a, L.length, c, ⟨L, b⟩⟩, rfl, ⟨hr, hg⟩⟩
set_option maxRecDepth 100000 in
theorem open_ruleB {fuel : Nat} {cs : List Value} {x : DataW H × List MemPlace} (h : DataW.trod enc Tryz.prog W 0 (fun _ => true) true fuel 48 cs = some x) (hx : Rows.uptoBulk x.1 ≤ 1048576) :
    ∃ k : Rl, cs = k.cells ∧ RlI W 1048576 k := by
  obtain ⟨xs, n, -, hxe, hl, hxl, hf⟩ := DataW.trod_struct Tryz.underlying48 h
  have hl5 : cs.length = 5 := hl
  have h0 := hf 0 _ rfl
  have h1 := hf 1 _ rfl
  have h2 := hf 2 _ rfl
  have z0 : (Tryz.prog).cellsOf 4 = 1 := by kernel_rfl
  have z1 : (Tryz.prog).cellsOf 39 = 2 := by kernel_rfl
  simp only [List.getElem_toArray, List.getElem_cons_zero, List.getElem_cons_succ] at h0 h1 h2
  rw [z0] at h0
  rw [z1] at h1 h2
  match xs, hxl with
  | [y0, y1, y2], _ =>
    match cs, hl5 with
    | [c0, c1, c2, c3, c4], _ =>
      obtain ⟨b, e1, -⟩ := DataW.trod_bool Tryz.underlying4 h0
      have e1' : c0 = .bool b := by simpa using e1
      subst e1'
      have h1' : DataW.trod enc Tryz.prog W 0 (fun _ => true) true n 39 [c1, c2] = some y1 := h1
      have h2' : DataW.trod enc Tryz.prog W 0 (fun _ => true) true n 39 [c3, c4] = some y2 := h2
      have hb : Rows.uptoBulk y1.1 ≤ 1048576 ∧ Rows.uptoBulk y2.1 ≤ 1048576 := by
        rw [hxe] at hx
        simp [Rows.uptoBulk, Rows.uptoBulkAll] at hx
        omega
      obtain ⟨k1, e3, g1⟩ := open_patB h1' hb.1
      obtain ⟨k2, e4, g2⟩ := open_patB h2' hb.2
      simp only [Pt.cells, List.cons.injEq, and_true] at e3 e4
      obtain ⟨rfl, rfl⟩ := e3
      obtain ⟨rfl, rfl⟩ := e4
      exact ⟨⟨b, k1, k2⟩, rfl, ⟨g1, g2⟩⟩
set_option maxRecDepth 100000 in
theorem open_rulesB {a : Option Addr} {n c : Nat} {d : DataW H} {p : List MemPlace} (h : DataW.Trod enc Tryz.prog W 0 (fun _ => true) true 22 (.slice a n c) d p) (hd : Rows.uptoBulk d ≤ 1048576) :
    ∃ L, n = L.length ∧ RlsI W 1048576 a c L := by
  obtain ⟨fuel, hf⟩ := h
  obtain ⟨a', c', L, hc, hr, hg⟩ := open_listB (f := Rl.cells) (s := 5) (Good := fun k : Rl => RlI W 1048576 k) (fun _ => rfl) (by decide) ⟨false, ⟨none, 0, 0, ⟨[], false⟩⟩, ⟨none, 0, 0, ⟨[], false⟩⟩⟩ Tryz.underlying22 (by kernel_rfl) (fun h hx => open_ruleB h hx) (show DataW.trod enc Tryz.prog W 0 (fun _ => true) true fuel 22 [.slice a n c] = some (d, p) by simpa [Value.cells] using hf) hd
  simp only [List.cons.injEq, Value.slice.injEq, and_true] at hc
  obtain ⟨rfl, rfl, rfl⟩ := hc
  exact ⟨L, rfl, hr, hg⟩
end
end Go.Proofs.YtejljmikammcdaaGreatDoor
