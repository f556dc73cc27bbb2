/-
  Walks of the tape that makes arguments: Fold, Next, Bytes.
-/
import Derived.Test.YtpiodpljiklfkaaOrd1
import Derived.Test.YtpiodpljiklfkaaCodec1
namespace Go.Proofs.Ytpiodpljiklfkaa
open Go.RowKit

theorem Try.elI : Elem Try.prog 36 3 1 8 (.int .i64 0) := ⟨Try.underlying36, by kernel_rfl, rfl, by decide⟩

/-- A number below n, or 0. -/
def Below1 (n : Int) (u : Nat) : Prop := (u : Int) < max n 1

theorem makeFold_any (v n : Int) (w : World) (hn : n ≤ 9223372036854775807) :
    Calls Try.prog 17 #[.int .i64 v, .int .i64 n] w fun e w' => ∃ u : Nat, e = .returned (.int .i64 u) ∧ Below1 n u ∧ w = w' := by
  by_cases h1 : n ≤ 1
  · go_enter Try.func17, Try.ntmps17
    go_wp2
    go_ret
    exact ⟨0, rfl, by unfold Below1; omega, rfl⟩
  · have h2 : 1 < n := by omega
    have hr1 := Int.tmod_lt_of_pos v (b := n) (by omega)
    have hr2 : -n < v.tmod n := by
      have h := Int.tmod_lt_of_pos (-v) (b := n) (by omega)
      rw [Int.neg_tmod] at h
      omega
    obtain ⟨r, hr⟩ : ∃ r, r = v.tmod n := ⟨_, rfl⟩
    have HR := Lib.hid hr.symm
    rw [← hr] at hr1 hr2
    have hnz : (n == 0) = false := by simp; omega
    clear hr h1
    by_cases h3 : r < 0
    · go_enter Try.func17, Try.ntmps17
      have hr' := HR.out
      go_wp2
      go_ret
      exact ⟨(r + n).toNat, ret_int (by omega), by unfold Below1; omega, rfl⟩
    · go_enter Try.func17, Try.ntmps17
      have hr' := HR.out
      have h3' : 0 ≤ r := by omega
      go_wp2
      go_ret
      exact ⟨r.toNat, ret_int (by omega), by unfold Below1; omega, rfl⟩

/-- A tape in block g, whose next number is the k-th. -/
def Tape (w : World) (g k : Nat) : Prop :=
  ∃ (a : Option Addr) (m c : Nat) (L : List Int), w.heap[g]? = some (.cells #[.slice a m c, .int .i64 k] 39 (0, 0)) ∧ Row w a m c 1 (L.map (Value.int .i64)) ∧ (∀ p, a = some p → 0 < m → p.block < g) ∧
    (∀ x ∈ L, -9223372036854775808 ≤ x ∧ x ≤ 9223372036854775807)

theorem Row.below1 {B : Nat} {w w' : World} {a : Option Addr} {n c s : Nat} {xs : List Value} (h : Row w a n c s xs) (hx : Below B w w') (hb : ∀ p, a = some p → 0 < n → p.block < B) : Row w' a n c s xs :=
  ⟨h.len, h.le, h.max, h.nil, h.at_, fun p hp j u hj => by
    have hc := h.cell p hp j u hj
    have hbl : (p.add j).block = p.block := by unfold Addr.add; split <;> rfl
    have hn : 0 < n := by
      have h5 := h.len
      have h6 := (List.getElem?_eq_some_iff.1 hj).1
      rcases Nat.eq_zero_or_pos n with h0 | h0
      · subst h0; omega
      · exact h0
    rw [hx.cell (by rw [hbl]; exact hb p hp hn)]; exact hc⟩
theorem Tape.below {w w' : World} {g k : Nat} (h : Tape w g k) (hx : Below (g + 1) w w') : Tape w' g k := by
  obtain ⟨a, m, c, L, h1, h2, h3, h4⟩ := h
  exact ⟨a, m, c, L, by rw [hx.block g (by omega)]; exact h1, h2.below1 hx (fun p hp hm => Nat.lt_succ_of_lt (h3 p hp hm)), h3, h4⟩

theorem frozen0 {w : World} {g : Nat} {cs : Array Value} {t : TypeId} (h : w.heap[g]? = some (.cells cs t (0, 0))) (j : Nat) : w.frozen? ⟨g, j, none⟩ = false := by
  simp [World.frozen?, h]
theorem heap_set1 {w : World} {g : Nat} {x y v : Value} {t : TypeId} (h : w.heap[g]? = some (.cells #[x, y] t (0, 0))) : (w.setCell ⟨g, 1, none⟩ v).heap[g]? = some (.cells #[x, v] t (0, 0)) := by
  simp [World.setCell, Array.getElem?_modify, h]
theorem grown_set {w w' : World} {g j : Nat} {v : Value} (h : w.heap = w'.heap) (h1 : w'.os = w.os) (h2 : w'.tape = w.tape) (h3 : w'.output = w.output) : w.grownBy (w'.setCell ⟨g, j, none⟩ v) (some g) :=
  ⟨h1, h2, h3, by simp [World.setCell, h], fun k _ hk => by rw [Below.heap_setCell _ _ _ _ (fun e => hk (by rw [e])), h]⟩
theorem grown_drew {w w' : World} {o : Option Nat} (h : w.grownBy w' o) : w.grownBy w'.drew o := ⟨h.1, h.2, h.3, h.4, h.5⟩
theorem Tape.drew {w : World} {g k : Nat} (h : Tape w g k) : Tape w.drew g k := h.below ((Below.refl _ _).drew)
theorem Tape.set {w w' : World} {g k : Nat} {a : Option Addr} {m c : Nat} {L : List Int} (h : w.heap = w'.heap) (h1 : w.heap[g]? = some (.cells #[.slice a m c, .int .i64 k] 39 (0, 0)))
    (h2 : Row w a m c 1 (L.map (Value.int .i64))) (h3 : ∀ p, a = some p → 0 < m → p.block < g) (h4 : ∀ x ∈ L, -9223372036854775808 ≤ x ∧ x ≤ 9223372036854775807) :
    Tape (w'.setCell ⟨g, 1, none⟩ (.int .i64 ((k : Int) + 1))) g (k + 1) :=
  ⟨a, m, c, L, heap_set1 (h ▸ h1), ⟨h2.len, h2.le, h2.max, h2.nil, h2.at_, fun p hp j u hj => by
    have hb : (p.add j).block = p.block := by unfold Addr.add; split <;> rfl
    have hlt := h3 p hp (by have h5 := h2.len; have h6 := (List.getElem?_eq_some_iff.1 hj).1; omega)
    rw [← h2.cell p hp j u hj]
    exact World.cell?_of_block ((Below.heap_setCell _ _ _ _ (by simp [hb]; omega)).trans (by rw [h]))⟩, h3, h4⟩

set_option maxRecDepth 100000 in
set_option maxHeartbeats 1000000 in
theorem Next_any (g k : Nat) (n : Int) (w : World) (ht : Tape w g k) (hk : k ≤ 100000000000000) (hn : n ≤ 9223372036854775807) :
    Calls Try.prog 18 #[.pointer (some ⟨g, 0, none⟩), .int .i64 n] w fun e w' => ∃ u : Nat, e = .returned (.int .i64 u) ∧ Below1 n u ∧ Tape w' g (k + 1) ∧ w.grownBy w' (some g) := by
  obtain ⟨a, m, c, L, h1, h2, h3, h4⟩ := ht
  have hm : m ≤ 9223372036854775807 := by have := h2.le; have := h2.max; unfold maxLen at this; omega
  have hc := fun j => cell_of_row w g j _ _ _ h1
  have hf0 := fun j => frozen0 (w := w.drew) h1 j
  have hf1 := fun j => frozen0 (w := w.drew.drew) h1 j
  by_cases hkm : (k : Int) < m
  · have hk1 : k < m := by omega
    go_enter Try.func18, Try.ntmps18
    go_wp2
    refine wp_region_x [(0, false), (1, false), (2, false), (3, false), (4, false), (5, false), (6, false), (7, false), (8, false), (9, false)] (by kernel_rfl) (by kernel_rfl) ?_
    have hA0 : ∀ w' j, Ext w.drew w' → w'.cell? ⟨g, j, none⟩ = #[.slice a m c, .int .i64 k][j]? := fun w' j hx => cell_of_row _ _ _ _ _ _ (hx.heap' h1)
    iterate 10 ((refine wpX_q rfl rfl _ (fun w' hx' => by go_simp; try rfl) ?_; go_simp))
    refine wpX_nil ?_
    go_wp2
    refine wp_region_x [(0, false), (1, false), (2, false), (3, false), (4, false), (5, false), (6, false), (7, false), (8, false), (9, false), (10, false)] (by kernel_rfl) (by kernel_rfl) ?_
    have hA1 : ∀ w' j, Ext w.drew.drew w' → w'.cell? ⟨g, j, none⟩ = #[.slice a m c, .int .i64 k][j]? := fun w' j hx => cell_of_row _ _ _ _ _ _ (hx.heap' h1)
    iterate 8 ((refine wpX_q rfl rfl _ (fun w' hx' => by go_simp; try rfl) ?_; go_simp))
    refine wpX_ix rfl rfl (.tmp 25) (.tmp 29) rfl Try.elI rfl (h2.drew.drew) k rfl rfl hk1 ?_
    intro b o hco
    have hcc : ∀ w', Ext w.drew.drew w' → w'.cell? ⟨b, o, none⟩ = some (.int .i64 (L.getD k 0)) := fun w' hx => by
      have h := hco 0 (by omega) w' hx
      have hl := h2.len
      rw [Nat.add_zero] at h
      rw [h, Nat.mul_one, Nat.add_zero, List.getElem?_map, List.getElem?_eq_getElem (by simpa using by simp at hl; omega), List.getD_eq_getElem?_getD, List.getElem?_eq_getElem (by simp at hl; omega)]
      rfl
    ((refine wpX_q rfl rfl _ (fun w' hx' => by go_simp; try rfl) ?_; go_simp))
    ((refine wpX_q rfl rfl _ (fun w' hx' => by go_simp; try rfl) ?_; go_simp))
    refine wpX_nil ?_
    go_wp2_with (go_at_call 17; (with_reducible refine (makeFold_any _ n _ hn).mono ?_); rintro e w1 ⟨u, rfl, hu, rfl⟩)
    go_ret
    exact ⟨u, rfl, hu, (Tape.set rfl h1 h2 h3 h4).drew.drew, grown_drew (grown_drew (grown_set rfl rfl rfl rfl))⟩
  · 
    go_enter Try.func18, Try.ntmps18
    go_wp2
    refine wp_region_x [(0, false), (1, false), (2, false), (3, false), (4, false), (5, false), (6, false), (7, false), (8, false), (9, false)] (by kernel_rfl) (by kernel_rfl) ?_
    have hA0 : ∀ w' j, Ext w.drew w' → w'.cell? ⟨g, j, none⟩ = #[.slice a m c, .int .i64 k][j]? := fun w' j hx => cell_of_row _ _ _ _ _ _ (hx.heap' h1)
    iterate 10 ((refine wpX_q rfl rfl _ (fun w' hx' => by go_simp; try rfl) ?_; go_simp))
    refine wpX_nil ?_
    go_wp2_with (go_at_call 17; (with_reducible refine (makeFold_any _ n _ hn).mono ?_); rintro e w1 ⟨u, rfl, hu, rfl⟩)
    go_ret
    exact ⟨u, rfl, hu, (Tape.set rfl h1 h2 h3 h4).drew, grown_drew (grown_set rfl rfl rfl rfl)⟩

/-- Nothing that was there has changed but block g. -/
theorem chg_trans {w w1 w2 : World} {g : Nat} {o : Option Nat} (h : w.grownBy w1 (some g)) (h2 : w1.grownBy w2 o) (ho : ∀ b, o = some b → w.heap.size ≤ b ∨ b = g) : w.grownBy w2 (some g) :=
  ⟨h2.os.trans h.os, h2.tape.trans h.tape, h2.output.trans h.output, Nat.le_trans h.size h2.size, fun k hk hg => by
    have hne : some k ≠ o := fun e => by
      rcases ho k e.symm with h3 | h3
      · omega
      · exact hg (by rw [h3])
    exact (h2.block k (by have := h.size; omega) hne).trans (h.block k hk hg)⟩
theorem own_kept {w w' : World} {B e s n g : Nat} {a : Option Addr} {c : Nat} {xs : List Value} (h : w.ownsRow B e s (.slice a n c) n xs) (hg : w.grownBy w' (some g)) (hB : g < B) : w'.ownsRow B e s (.slice a n c) n xs :=
  h.kept (row := some g) hg (by
    rw [ownBlock_slice]
    cases ha : blockOf a with
    | none => simp
    | some b => have := own_block h b ha; simp; omega)
theorem Tape.grown {w w' : World} {g k : Nat} {o : Option Nat} (h : Tape w g k) (hx : w.grownBy w' o) (ho : ∀ b, o = some b → g < b) : Tape w' g k := by
  have hlt : g < w.heap.size := by
    obtain ⟨a, m, c, L, h1, -⟩ := h
    exact (Array.getElem?_eq_some_iff.1 h1).1
  exact h.below ⟨hx.os, hx.tape, hx.output, hx.size, fun j hj => hx.block j (by omega) (fun e => by have := ho j e.symm; omega)⟩
theorem Tape.lt {w : World} {g k : Nat} (h : Tape w g k) : g < w.heap.size := by
  obtain ⟨a, m, c, L, h1, -⟩ := h
  exact (Array.getElem?_eq_some_iff.1 h1).1

def TBRel (w : World) (g k n : Nat) (out i : Value) (wr : World) : Prop :=
  ∃ (j c : Nat) (a : Option Addr) (l : List UInt8), i = .int .i64 j ∧ out = .slice a j c ∧ j ≤ n ∧ wr.ownsRow w.heap.size 5 1 (.slice a j c) j (l.map u8) ∧ Tape wr g (k + j) ∧ w.grownBy wr (some g)

set_option maxRecDepth 100000 in
set_option maxHeartbeats 1000000 in
theorem TapeBytes_any (g k n K : Nat) (w : World) (ht : Tape w g k) (hk : k + n ≤ 100000000000000) (hK : 1 ≤ K) (hK' : K ≤ 256) :
    Calls Try.prog 54 #[.pointer (some ⟨g, 0, none⟩), .int .i64 n, .int .i64 K] w fun e w' =>
      ∃ (a : Option Addr) (c : Nat) (l : List UInt8), e = .returned (.slice a n c) ∧ w'.ownsRow w.heap.size 5 1 (.slice a n c) n (l.map u8) ∧ Tape w' g (k + n) ∧ w.grownBy w' (some g) := by
  have hgl := ht.lt
  go_enter Try.func54, Try.ntmps54
  go_wp2_with (at_make; refine wpList_mk rfl _ _ rfl Try.elB 0 n rfl rfl (by simp) (by simp) (by omega) (by omega) (by unfold maxLen; omega) ?_; intro b w1 ho1 hx1)
  go_loopw [7, 8] (TBRel w g k n) (fun _ i _ => n - (intOf i).toNat)
  case atStart => exact ⟨0, n, some ⟨b, 0, none⟩, [], rfl, rfl, by omega, by simpa [zeros, madeCells] using ho1, ht.below (hx1.mono (by omega)), ⟨hx1.os, hx1.tape, hx1.output, hx1.size, fun k hk _ => hx1.block k hk⟩⟩
  case round =>
    obtain ⟨j, c, a, l, rfl, rfl, hj, ho, ht1, hg1⟩ := hrel
    by_cases hjn : j < n
    · go_wp2_with (first
        | (go_at_call 18; (with_reducible refine (Next_any g (k + j) K _ ht1 (by omega) (by omega)).mono ?_); rintro e w2 ⟨u, rfl, hu, ht2, hg2⟩; have hu2 : (u : Int) < 256 := (by unfold Below1 at hu; omega); have ho2 := own_kept ho hg2 hgl; have hz2 : w.heap.size ≤ w2.heap.size := (by have := hg1.size; have := hg2.size; omega))
        | (at_builtin; go_loud (refine wpList_app rfl _ _ rfl Try.elB rfl (ho2.alloc _) rfl (Row.one _ _ _) (by intro u hu; simp at hu; subst hu; rfl) (by omega) (by unfold maxLen; omega) (by simp; omega) ?_); intro a3 c3 w3 ho3 hg3))
      have hu8 : Value.int .u8 (u : Int) = u8 (UInt8.ofNat u) := (u8_ofNat u (by omega)).symm
      have hb3 : ∀ b, blockOf a = some b → w.heap.size ≤ b := fun b hb => (own_block ho b hb).1
      go_roundw
      case rel =>
        refine ⟨j + 1, c3, a3, l ++ [UInt8.ofNat u], by go_num, rfl, by omega, by rw [List.map_append, List.map_cons, List.map_nil, ← hu8]; exact ho3, ?_, ?_⟩
        · exact ((ht2.grown (World.grownBy_alloc w2 _ none) (fun _ h => nomatch h)).grown hg3 (fun b hb => by have := hb3 b hb; omega))
        · exact chg_trans (chg_trans (chg_trans hg1 hg2 (fun b hb => .inr (by cases hb; rfl))) (World.grownBy_alloc w2 _ none) (fun _ h => nomatch h)) hg3 (fun b hb => .inl (hb3 b hb))
      case measure => simp [intOf]; omega
    · obtain rfl : j = n := by omega
      go_wp2
      go_ret
      exact ⟨a, c, l, rfl, ho, ht1, hg1⟩
end Go.Proofs.Ytpiodpljiklfkaa
