/-
  The reference's caches in memory, and At.
-/
import Derived.Test.YtpiodpljiklfkaaCacE
namespace Go.Proofs.Ytpiodpljiklfkaa
open Go.RowKit

/-- A chunk of a reference's cache in memory. -/
structure Re where
  s : Nat
  z : Int
  a : Option Addr
  n : Nat
  c : Nat
  l : List UInt8
  p : Nat
def Re.cells (k : Re) : List Value := [.int .u64 k.s, .int .i64 k.z, .slice k.a k.n k.c, .int .i64 k.p]
def Re.en (k : Re) : En := ⟨k.s, k.z, k.l, k.p⟩
theorem re_get {L : List Re} {i : Nat} {k : Re} (h : L[i]? = some k) : ∀ j, j < 4 → (L.flatMap Re.cells)[i * 4 + j]? = k.cells[j]? := by
  induction L generalizing i with
  | nil => cases h
  | cons x L ih =>
    intro j hj
    rw [List.flatMap_cons]
    cases i with
    | zero =>
      cases h
      rw [Nat.zero_mul, Nat.zero_add, List.getElem?_append_left (by simp [Re.cells]; omega)]
    | succ i =>
      rw [List.getElem?_append_right (by simp [Re.cells]; omega), ← ih (i := i) (by simpa using h) j hj]
      congr 1
      simp [Re.cells]
      omega
theorem re_range {w : World} {b o i : Nat} {L : List Re} {k : Re} (hk : L[i]? = some k) (hc : ∀ j, j < 4 → w.cell? ⟨b, o + j, none⟩ = (L.flatMap Re.cells)[i * 4 + j]?) :
    w.rangeAt b o k.cells := fun j v hj => by
  have hlt : j < 4 := (List.getElem?_eq_some_iff.1 hj).1
  exact (hc j hlt).trans ((re_get hk j hlt).trans hj)
theorem Try.elRe : Elem Try.prog 26 106 4 48 (.agg #[.int .u64 0, .int .i64 0, .slice none 0 0, .int .i64 0]) := ⟨Try.underlying26, by kernel_rfl, rfl, by decide⟩
theorem re_len (L : List Re) : (L.flatMap Re.cells).length = L.length * 4 := by
  induction L with
  | nil => rfl
  | cons k L ih => rw [List.flatMap_cons, List.length_append, ih, List.length_cons, Nat.add_mul, Nat.one_mul]; simp [Re.cells]; omega
theorem re_take (M : List Re) (k : Nat) : (M.flatMap Re.cells).take (k * 4) = (M.take k).flatMap Re.cells := by
  induction M generalizing k with
  | nil => simp
  | cons x M ih =>
    cases k with
    | zero => simp
    | succ k =>
      rw [List.flatMap_cons, List.take_succ_cons, List.flatMap_cons, ← ih, List.take_append]
      have hc : x.cells.length = 4 := rfl
      rw [List.take_of_length_le (by omega), hc, show (k + 1) * 4 - 4 = k * 4 by omega]
theorem re_drop (M : List Re) (k : Nat) : (M.flatMap Re.cells).drop (k * 4) = (M.drop k).flatMap Re.cells := by
  induction M generalizing k with
  | nil => simp
  | cons x M ih =>
    cases k with
    | zero => simp
    | succ k =>
      rw [List.flatMap_cons, List.drop_succ_cons, ← ih, List.drop_append]
      have hc : x.cells.length = 4 := rfl
      rw [List.drop_eq_nil_of_le (by omega), hc, show (k + 1) * 4 - 4 = k * 4 by omega, List.nil_append]
theorem re_oneCell (L : List Re) : ∀ u ∈ L.flatMap Re.cells, u.oneCell' = true := by
  intro u hu
  obtain ⟨k, -, hk⟩ := List.mem_flatMap.1 hu
  simp only [Re.cells, List.mem_cons, List.not_mem_nil, or_false] at hk
  rcases hk with rfl | rfl | rfl | rfl <;> rfl
/-- A reference's cache: its rows belong to blocks from B on. -/
structure Rc (w : World) (B room : Nat) (a : Option Addr) (n c : Nat) (L : List Re) : Prop where
  own : w.ownsRow B 106 4 (.slice a n c) n (L.flatMap Re.cells)
  data : ∀ k ∈ L, w.ownsRow B 5 1 (.slice k.a k.n k.c) k.n (k.l.map u8)
  ok : OkE room (L.map Re.en)
  max : room ≤ 1048576
theorem Rc.len {w : World} {B room n c : Nat} {a : Option Addr} {L : List Re} (h : Rc w B room a n c L) : L.length = n := by
  have h1 := h.own.1
  rw [re_len] at h1
  omega
theorem Rc.few {w : World} {B room n c : Nat} {a : Option Addr} {L : List Re} (h : Rc w B room a n c L) : n ≤ 1048576 := by
  have h1 := h.ok.count
  rw [List.length_map, h.len] at h1
  have := h.max
  omega
theorem Rc.row {w : World} {B room n c : Nat} {a : Option Addr} {L : List Re} (h : Rc w B room a n c L) : Row w a n c 4 (L.flatMap Re.cells) := Row.of_own h.own
theorem Rc.ext {w w' : World} {B room n c : Nat} {a : Option Addr} {L : List Re} (h : Rc w B room a n c L) (hx : Ext w w') : Rc w' B room a n c L :=
  ⟨own_ext h.own hx, fun k hk => own_ext (h.data k hk) hx, h.ok, h.max⟩
theorem Rc.chg {F : List Nat} {w w' : World} {B room n c : Nat} {a : Option Addr} {L : List Re} (h : Rc w B room a n c L) (hc : Chg F w w') (hT : Typed w F) : Rc w' B room a n c L :=
  ⟨own_chg h.own hc hT (by decide) (by decide), fun k hk => own_chg (h.data k hk) hc hT (by decide) (by decide), h.ok, h.max⟩
theorem Rc.tick {w w' : World} {B room n c g : Nat} {a : Option Addr} {L : List Re} (h : Rc w B room a n c L) (hg : w.grownBy w' (some g)) (hB : g < B) : Rc w' B room a n c L :=
  ⟨own_kept h.own hg hB, fun k hk => own_kept (h.data k hk) hg hB, h.ok, h.max⟩
theorem Re.keys {w : World} {B room n c : Nat} {a : Option Addr} {L : List Re} (h : Rc w B room a n c L) {k : Re} (hk : k ∈ L) : k.s ≤ 18446744073709551615 ∧ k.z = (k.n : Int) ∧ k.l.length = k.n ∧ 0 < k.n ∧ k.p ≤ 1024 := by
  have h1 := h.ok.right k.en (List.mem_map_of_mem hk)
  have h2 := own_len (h.data k hk)
  have h3 : (k.s, k.z) = (fp k.l, (k.l.length : Int)) := h1.1
  have h4 : 0 < k.l.length := h1.2.1
  injection h3 with h5 h6
  have := fp_lt k.l
  exact ⟨by omega, by omega, by omega, by omega, h1.2.2⟩
/-- The index, or -1. -/
def atI (k : Nat × Int) (E : List En) : Int := match atF k E with | none => -1 | some i => (i : Int)
def AtRel (w : World) (n : Nat) (L : List Re) (k : Nat × Int) (i : Value) (wr : World) : Prop := ∃ j : Nat, i = .int .i64 j ∧ j ≤ n ∧ (∀ t < j, ∀ y, L[t]? = some y → (y.s, y.z) ≠ k) ∧ Ext w wr
theorem at_hit {L : List Re} {k : Nat × Int} {j : Nat} {y : Re} (h : ∀ t < j, ∀ y, L[t]? = some y → (y.s, y.z) ≠ k) (hy : L[j]? = some y) (he : (y.s, y.z) = k) : atF k (L.map Re.en) = some j :=
  atF_of (x := y.en) (by rw [List.getElem?_map, hy]; rfl) he fun t ht z hz => by
    rw [List.getElem?_map] at hz
    obtain ⟨x, hx, rfl⟩ := Option.map_eq_some_iff.1 hz
    exact h t ht x hx
theorem at_miss {L : List Re} {k : Nat × Int} {j : Nat} (h : ∀ t < j, ∀ y, L[t]? = some y → (y.s, y.z) ≠ k) (hj : L.length ≤ j) : atF k (L.map Re.en) = none :=
  atF_not fun x hx => by
    obtain ⟨y, hy, rfl⟩ := List.mem_map.1 hx
    obtain ⟨t, ht⟩ := List.getElem?_of_mem hy
    exact h t (by have := (List.getElem?_eq_some_iff.1 ht).1; omega) y ht
theorem re_id {w : World} {b o i : Nat} {L : List Re} {k : Re} (hk : L[i]? = some k) (hc : ∀ j, j < 4 → w.cell? ⟨b, o + j, none⟩ = (L.flatMap Re.cells)[i * 4 + j]?) :
    w.rangeAt b o [.int .u64 k.s, .int .i64 k.z] := fun j v hj => by
  refine re_range hk hc j v ?_
  rcases j with _ | _ | j
  · exact hj
  · exact hj
  · simp at hj
theorem id_cmp {s s' : Nat} {z z' : Int} (h : (s', z') ≠ (s, z)) : ((s' : Int) == (s : Int)) = false ∨ ((s' : Int) == (s : Int)) = true ∧ (z' == z) = false := by
  by_cases h1 : s' = s
  · refine .inr ⟨by simp [h1], ?_⟩
    by_cases h2 : z' = z
    · exact absurd (Prod.ext h1 h2) h
    · simpa using h2
  · exact .inl (by simp; omega)
/-- A cache and an ID as arguments in new boxes. -/
def boxed (w : World) (room : Nat) (a : Option Addr) (n c s : Nat) (z : Int) : World := (w.alloc (.cells #[.int .i64 room, .slice a n c] 28)).alloc (.cells #[.int .u64 s, .int .i64 z] 45)
theorem boxed_ext (w : World) (room : Nat) (a : Option Addr) (n c s : Nat) (z : Int) : Ext w (boxed w room a n c s z) := (Ext.alloc' _ _).trans' (Ext.alloc' _ _)
theorem boxed_one (w : World) (room : Nat) (a : Option Addr) (n c s : Nat) (z : Int) : (boxed w room a n c s z).heap[w.heap.size]? = some (.cells #[.int .i64 room, .slice a n c] 28 (0, 0)) := (Ext.alloc' _ _).heap' (heap_alloc_new w _)
theorem boxed_two (w : World) (room : Nat) (a : Option Addr) (n c s : Nat) (z : Int) : (boxed w room a n c s z).heap[w.heap.size + 1]? = some (.cells #[.int .u64 s, .int .i64 z] 45 (0, 0)) := by
  rw [← World.size_alloc w (.cells #[.int .i64 room, .slice a n c] 28)]
  exact heap_alloc_new _ _

set_option maxRecDepth 100000 in
set_option maxHeartbeats 4000000 in
theorem At38_any (B room : Nat) (a : Option Addr) (n c : Nat) (L : List Re) (s : Nat) (z : Int) (w : World) (h : Rc w B room a n c L) :
    Calls Try.prog 50 #[.agg #[.int .i64 room, .slice a n c], .agg #[.int .u64 s, .int .i64 z]] w (NewNone (.int .i64 (atI (s, z) (L.map Re.en))) w) := by
  have hln := h.len
  have hfew := h.few
  have HL := Lib.hid hln
  have hx1 := boxed_ext w room a n c s z
  have HX := Lib.hid hx1
  have hh1 := boxed_one w room a n c s z
  have hh2 := boxed_two w room a n c s z
  have HR := Lib.hid (h.row.ext hx1)
  clear hln h
  go_enter Try.func50, Try.ntmps50
  go_upto_region 1 with fail
  change Code.wp _ _ _ _ (boxed w room a n c s z)
  generalize boxed w room a n c s z = w2 at hx1 hh1 hh2 HX HR ⊢
  have HB := Lib.hid fun w' (h : Ext w2 w') => cell_of_row w' w.heap.size 1 _ _ _ (h.heap' hh1)
  have HK := Lib.hid fun w' (h : Ext w2 w') => range_of_heap2 (h.heap' hh2)
  clear hx1 hh1 hh2
  go_wp2
  go_loopw [5] (AtRel w2 n L (s, z)) (fun i _ => n - (intOf i).toNat)
  case atStart => exact ⟨0, rfl, Nat.zero_le _, fun t ht => absurd ht (Nat.not_lt_zero _), Below.refl _ _⟩
  case round =>
    obtain ⟨j, rfl, hj, hno, hx⟩ := hrel
    rename World => w3
    have hcb := HB.out w3 hx
    have HNO := Lib.hid hno
    clear hno
    by_cases hjn : j < n
    · obtain ⟨y, hy⟩ : ∃ y, L[j]? = some y := ⟨_, List.getElem?_eq_getElem (by have := HL.out; omega)⟩
      have HY := Lib.hid hy
      have HR3 := Lib.hid (HR.out.ext hx)
      clear hy
      have hxd := hx.trans' (Ext.drew' w3)
      by_cases he : (y.s, y.z) = (s, z)
      · have h3 : ((y.s : Int) == (s : Int)) = true := by have h4 : y.s = s := congrArg Prod.fst he; simp [h4]
        have h4 : (y.z == z) = true := by have h4 : y.z = z := congrArg Prod.snd he; simp [h4]
        have hat := at_hit HNO.out HY.out he
        have hv : atI (s, z) (L.map Re.en) = (j : Int) := by unfold atI; rw [hat]
        have HV := Lib.hid hv
        clear he hat hv
        go_wp2
        refine wp_region_e [] (.qs [0, 1, 2, 3, 4, 5, 6, 7, 8] .nil) (by kernel_rfl) (by kernel_rfl) ?_
        ((refine wpY_q rfl rfl _ (fun w' hx' => by go_simp; try rfl) ?_; go_simp))
        refine wpY_q rfl rfl (.slice a n c) (fun w' hx' => by have hb' := HB.out w' (hx.trans' hx'); go_simp; try rfl) ?_
        go_simp
        ((refine wpY_q rfl rfl _ (fun w' hx' => by go_simp; try rfl) ?_; go_simp))
        refine wpY_ix rfl rfl (.tmp 14) (.tmp 15) rfl Try.elRe rfl (fun w' h => HR3.out.ext h) j rfl rfl hjn ?_
        intro b3 o3 hc3
        iterate 2 ((refine wpY_q rfl rfl _ (fun w' hx' => by go_simp; try rfl) ?_; go_simp))
        refine wpY_ld rfl rfl (.tmp 18) rfl b3 o3 rfl [.int .u64 y.s, .int .i64 y.z] _ (fun w' h => re_id HY.out (fun i hi => hc3 i hi w' h)) Try.underlying45 rfl (by kernel_rfl) ?_
        refine wpY_ld rfl rfl (.tmp 3) rfl (w.heap.size + 1) 0 rfl [.int .u64 s, .int .i64 z] _ (fun w' h => HK.out w' (hx.trans' h)) Try.underlying45 rfl (by kernel_rfl) ?_
        clear hc3
        ((refine wpY_q rfl rfl _ (fun w' hx' => by go_simp; try rfl) ?_; go_simp))
        refine wpY_nil ?_
        go_wp2
        go_ret
        exact ⟨by rw [HV.out]; rfl, HX.out.trans' hxd⟩
      · have hno2 : ∀ t < j + 1, ∀ y', L[t]? = some y' → (y'.s, y'.z) ≠ (s, z) := fun t ht y' hy' => by
          rcases Nat.lt_succ_iff_lt_or_eq.1 ht with h1 | h1
          · exact HNO.out t h1 y' hy'
          · subst h1
            rw [HY.out] at hy'
            cases hy'
            exact he
        have HN2 := Lib.hid hno2
        have hor := id_cmp he
        clear he hno2
        rcases hor with h3 | ⟨h3, h4⟩
        · go_wp2
          refine wp_region_e [] (.qs [0, 1, 2, 3, 4, 5, 6, 7, 8] .nil) (by kernel_rfl) (by kernel_rfl) ?_
          ((refine wpY_q rfl rfl _ (fun w' hx' => by go_simp; try rfl) ?_; go_simp))
          refine wpY_q rfl rfl (.slice a n c) (fun w' hx' => by have hb' := HB.out w' (hx.trans' hx'); go_simp; try rfl) ?_
          go_simp
          ((refine wpY_q rfl rfl _ (fun w' hx' => by go_simp; try rfl) ?_; go_simp))
          refine wpY_ix rfl rfl (.tmp 14) (.tmp 15) rfl Try.elRe rfl (fun w' h => HR3.out.ext h) j rfl rfl hjn ?_
          intro b3 o3 hc3
          iterate 2 ((refine wpY_q rfl rfl _ (fun w' hx' => by go_simp; try rfl) ?_; go_simp))
          refine wpY_ld rfl rfl (.tmp 18) rfl b3 o3 rfl [.int .u64 y.s, .int .i64 y.z] _ (fun w' h => re_id HY.out (fun i hi => hc3 i hi w' h)) Try.underlying45 rfl (by kernel_rfl) ?_
          refine wpY_ld rfl rfl (.tmp 3) rfl (w.heap.size + 1) 0 rfl [.int .u64 s, .int .i64 z] _ (fun w' h => HK.out w' (hx.trans' h)) Try.underlying45 rfl (by kernel_rfl) ?_
          clear hc3
          ((refine wpY_q rfl rfl _ (fun w' hx' => by go_simp; try rfl) ?_; go_simp))
          refine wpY_nil ?_
          go_wp2
          go_roundw
          case rel => exact ⟨j + 1, by go_num, hjn, HN2.out, hxd⟩
          case measure => simp [intOf]; omega
        · go_wp2
          refine wp_region_e [] (.qs [0, 1, 2, 3, 4, 5, 6, 7, 8] .nil) (by kernel_rfl) (by kernel_rfl) ?_
          ((refine wpY_q rfl rfl _ (fun w' hx' => by go_simp; try rfl) ?_; go_simp))
          refine wpY_q rfl rfl (.slice a n c) (fun w' hx' => by have hb' := HB.out w' (hx.trans' hx'); go_simp; try rfl) ?_
          go_simp
          ((refine wpY_q rfl rfl _ (fun w' hx' => by go_simp; try rfl) ?_; go_simp))
          refine wpY_ix rfl rfl (.tmp 14) (.tmp 15) rfl Try.elRe rfl (fun w' h => HR3.out.ext h) j rfl rfl hjn ?_
          intro b3 o3 hc3
          iterate 2 ((refine wpY_q rfl rfl _ (fun w' hx' => by go_simp; try rfl) ?_; go_simp))
          refine wpY_ld rfl rfl (.tmp 18) rfl b3 o3 rfl [.int .u64 y.s, .int .i64 y.z] _ (fun w' h => re_id HY.out (fun i hi => hc3 i hi w' h)) Try.underlying45 rfl (by kernel_rfl) ?_
          refine wpY_ld rfl rfl (.tmp 3) rfl (w.heap.size + 1) 0 rfl [.int .u64 s, .int .i64 z] _ (fun w' h => HK.out w' (hx.trans' h)) Try.underlying45 rfl (by kernel_rfl) ?_
          clear hc3
          ((refine wpY_q rfl rfl _ (fun w' hx' => by go_simp; try rfl) ?_; go_simp))
          refine wpY_nil ?_
          go_wp2
          go_roundw
          case rel => exact ⟨j + 1, by go_num, hjn, HN2.out, hxd⟩
          case measure => simp [intOf]; omega
    · obtain rfl : j = n := by omega
      have hm := at_miss HNO.out (by have := HL.out; omega)
      have hv : atI (s, z) (L.map Re.en) = -1 := by unfold atI; rw [hm]
      have HV := Lib.hid hv
      clear hm hv hj hjn
      go_wp2
      go_ret
      exact ⟨by rw [HV.out]; rfl, HX.out.trans' hx⟩
end Go.Proofs.Ytpiodpljiklfkaa
