/-
  The reference's caches: Get.
-/
import Derived.Test.YtpiodpljiklfkaaRefH
namespace Go.Proofs.Ytpiodpljiklfkaa
open Go.RowKit
theorem own_chgT {w w' : World} {F : List Nat} {B t s n c : Nat} {a : Option Addr} {xs : List Value} (h : w.ownsRow B t s (.slice a n c) n xs) (hc : Chg F w w')
    (hT : ∀ k ∈ F, ∀ (cs : Array Value) (t' : TypeId) (fr : Nat × Nat), w.heap[k]? = some (.cells cs t' fr) → t' ≠ t) : w'.ownsRow B t s (.slice a n c) n xs := by
  refine ⟨h.1, ?_⟩
  rcases h.2 with hn | ⟨g, cap, cur, hv, hB, hg, rest⟩
  · exact .inl hn
  · exact .inr ⟨g, cap, cur, hv, hB, hc.heap hg fun hm => hT g hm _ _ _ hg rfl, rest⟩
theorem one_type {w : World} {g : Nat} {cs : Array Value} {t t0 : TypeId} {fr : Nat × Nat} (h : w.heap[g]? = some (.cells cs t fr)) (ht : t ≠ t0) : ∀ k ∈ [g], ∀ (cs' : Array Value) (t' : TypeId) (fr' : Nat × Nat), w.heap[k]? = some (.cells cs' t' fr') → t' ≠ t0 := fun k hk cs' t' fr' hh => by
  rw [List.mem_singleton.1 hk, h] at hh
  simp only [Option.some.injEq, Obj.cells.injEq] at hh
  rw [← hh.2.1]
  exact ht
/-- Where the data lie: where they lay, or in new memory. -/
def DatR (w : World) (L L' : List Re) : Prop := ∀ k ∈ L', k ∈ L ∨ ∀ b, blockOf k.a = some b → w.heap.size ≤ b
/-- What the reference's Get answers. -/
def RGetO (w : World) (B room : Nat) (L0 : List Re) (r : List En × List UInt8 × Bool) (en : Ending) (w' : World) : Prop :=
  ∃ (a : Option Addr) (n c : Nat) (L : List Re) (ba : Option Addr) (bn bc : Nat), en = .returned (.tuple #[.agg #[.int .i64 room, .slice a n c], .slice ba bn bc, .bool r.2.2]) ∧
    Rc w' B room a n c L ∧ L.map Re.en = r.1 ∧ w'.ownsRow B 5 1 (.slice ba bn bc) bn (r.2.1.map u8) ∧ Ext w w' ∧ DatR w L0 L
/-- A cache and an ID in boxes, and a box for the answer. -/
def boxed3 (w : World) (room : Nat) (a : Option Addr) (n c s : Nat) (z : Int) : World := (boxed w room a n c s z).alloc (.cells #[.int .i64 0, .slice none 0 0] 28)
theorem boxed3_facts (w : World) (room : Nat) (a : Option Addr) (n c s : Nat) (z : Int) : Ext w (boxed3 w room a n c s z) ∧
    (boxed3 w room a n c s z).heap[w.heap.size]? = some (.cells #[.int .i64 room, .slice a n c] 28 (0, 0)) ∧
    (boxed3 w room a n c s z).heap[w.heap.size + 1]? = some (.cells #[.int .u64 s, .int .i64 z] 45 (0, 0)) ∧
    (boxed3 w room a n c s z).heap[w.heap.size + 1 + 1]? = some (.cells #[.int .i64 0, .slice none 0 0] 28 (0, 0)) := by
  have hx := Ext.alloc' (boxed w room a n c s z) (.cells #[.int .i64 0, .slice none 0 0] 28)
  have hs : (boxed w room a n c s z).heap.size = w.heap.size + 1 + 1 := by unfold boxed; rw [World.size_alloc, World.size_alloc]
  refine ⟨(boxed_ext w room a n c s z).trans' hx, hx.heap' (boxed_one w room a n c s z), hx.heap' (boxed_two w room a n c s z), ?_⟩
  rw [← hs]
  exact heap_alloc_new _ _

set_option maxRecDepth 100000 in
set_option maxHeartbeats 4000000 in
theorem refGet38_any (B room : Nat) (a : Option Addr) (n c : Nat) (L : List Re) (s : Nat) (z : Int) (w : World) (h : Rc w B room a n c L) (hB : B ≤ w.heap.size) :
    Calls Try.prog 48 #[.agg #[.int .i64 room, .slice a n c], .agg #[.int .u64 s, .int .i64 z]] w (RGetO w B room L (getC (L.map Re.en) (s, z))) := by
  have hln := h.len
  have hfew := h.few
  have HL := Lib.hid hln
  have HH := Lib.hid h
  have HBB := Lib.hid hB
  obtain ⟨hx1, hh1, hh2, hh3⟩ := boxed3_facts w room a n c s z
  have HX := Lib.hid hx1
  have HR := Lib.hid (h.ext hx1)
  clear hln h hB
  go_enter Try.func48, Try.ntmps48
  go_upto_region 1 with fail
  change Code.wp _ _ _ _ (boxed3 w room a n c s z)
  generalize boxed3 w room a n c s z = w2 at hx1 hh1 hh2 hh3 HX HR ⊢
  have r1 := range_of_heap2 hh1
  have r2 := range_of_heap2 hh2
  have HH1 := Lib.hid hh1
  have HH3 := Lib.hid hh3
  clear hx1 hh1 hh2 hh3
  go_upto_region 2 with (first
    | ((with_reducible refine atSlot 8 ?_); refine wpList_of_wp rfl (wp_load_mid (op := ⟨some 8, _, _, _, _, _⟩) 28 _ rfl w.heap.size 0 rfl [.int .i64 room, .slice a n c] _ r1 Try.underlying28 rfl (by kernel_rfl) ?_); clear r1)
    | ((with_reducible refine atSlot 9 ?_); refine wpList_of_wp rfl (wp_load_mid (op := ⟨some 9, _, _, _, _, _⟩) 45 _ rfl (w.heap.size + 1) 0 rfl [.int .u64 s, .int .i64 z] _ r2 Try.underlying45 rfl (by kernel_rfl) ?_); clear r2)
    | (go_at_call 50; (with_reducible refine (At38_any B room a n c L s z _ HR.out).mono ?_); rintro en w3 ⟨rfl, hx3⟩)
    | fail)
  have hz2 := HX.out.size
  have hz3 := hx3.size
  have hh1 := hx3.heap' HH1.out
  have hh3 := hx3.heap' HH3.out
  have hrg := range_of_heap2 hh1
  have HX3 := Lib.hid (HX.out.trans' hx3)
  cases hat : atF (s, z) (L.map Re.en) with
  | none =>
    have hv : getC (L.map Re.en) (s, z) = (L.map Re.en, [], false) := by unfold getC; rw [hat]
    rw [atI_none hat]
    have HV := Lib.hid hv
    have HF := Lib.hid (setRow_heap w3 (w.heap.size + 1 + 1) _ #[.int .i64 room, .slice a n c] _ _ hh3)
    have HXF := Lib.hid (HX3.out.setRow (g := w.heap.size + 1 + 1) (cs := #[.int .i64 room, .slice a n c]) (by omega))
    clear hat hv hh1
    go_wp2_with (first
      | ((with_reducible refine atSlot 13 ?_); refine wpList_of_wp rfl (wp_load_mid (op := ⟨some 13, _, _, _, _, _⟩) 28 _ rfl w.heap.size 0 rfl [.int .i64 room, .slice a n c] _ hrg Try.underlying28 rfl (by kernel_rfl) ?_); clear hrg)
      | ((with_reducible refine atStore 4 ?_); refine wpList_of_wp rfl (wp_store_row (o := ⟨none, _, _, _, _, _⟩) _ _ _ rfl (w.heap.size + 1 + 1) #[.int .i64 room, .slice a n c] rfl rfl _ _ hh3 (by kernel_rfl) rfl (by simp [Value.oneCell']) ?_))
      | fail)
    refine bodyPost_ret (results_c2 (ty := 28) rfl _ (w.heap.size + 1 + 1) [.int .i64 room, .slice a n c] _ rfl (range_of_heap2 HF.out) Try.underlying28 rfl (by kernel_rfl)) rfl ?_
    rw [HV.out]
    exact ⟨a, n, c, L, none, 0, 0, rfl, HH.out.ext HXF.out, rfl, own_nil _ _ _ _, HXF.out, fun k hk => .inl hk⟩
  | some i =>
    obtain ⟨y, hy, -⟩ := re_at hat
    have hv : getC (L.map Re.en) (s, z) = (useF (L.map Re.en) i, y.l, true) := by
      unfold getC
      rw [hat]
      simp only
      rw [List.getElem?_map, hy]
      rfl
    have hin : i < n := by have := (List.getElem?_eq_some_iff.1 hy).1; have := HL.out; omega
    rw [atI_some hat]
    have HV := Lib.hid hv
    have HY := Lib.hid hy
    have HR3 := Lib.hid (HR.out.ext hx3)
    have HUS := Lib.hid (cutL_use hy)
    clear hat hv hy
    obtain ⟨g, hge⟩ : ∃ g, g = w.heap.size + 1 + 1 := ⟨_, rfl⟩
    rw [← hge] at hh3
    have HGE := Lib.hid hge
    have hg1 : w.heap.size ∉ [g] := fun h => by have := List.mem_singleton.1 h; omega
    have R0 : Chg [g] w3 w3.drew := Chg.drew _ _
    have HRG := Lib.hid fun w' (h : Chg [g] w3 w') => range_of_heap2 (h.heap hh1 hg1)
    have HCB := Lib.hid fun w' (h : Chg [g] w3 w') => cell_of_row w' w.heap.size 1 _ _ _ (h.heap hh1 hg1)
    have HRW := Lib.hid fun w' (h : Chg [g] w3 w') => Row.of_own (own_chgT HR3.out.own h (one_type hh3 (by decide)))
    have HHG := Lib.hid hh3
    go_upto_region 4 with fail
    rw [← hge]
    clear hge hg1 hrg hh1 hh3
    refine wp_region_z (fun w' => Chg [g] w3 w') R0 [] (.qs [0, 1, 3, 4, 5, 6, 7, 8, 9] (.l 2 (.l 10 (.qs [11, 12] .nil)))) (by kernel_rfl) (by kernel_rfl) ?_
    refine wpZ_ld rfl rfl (.tmp 2) rfl w.heap.size 0 rfl [.int .i64 room, .slice a n c] _ HRG.out Try.underlying28 rfl (by kernel_rfl) ?_
    go_simp
    iterate 2 ((refine wpZ_q rfl rfl _ (fun w' hx' => by go_simp; try rfl) ?_; go_simp))
    refine wpZ_q rfl rfl (.slice a n c) (fun w' hx' => by have hb' := HCB.out w' hx'; go_simp; try rfl) ?_
    go_simp
    ((refine wpZ_q rfl rfl _ (fun w' hx' => by go_simp; try rfl) ?_; go_simp))
    refine wpZ_ix rfl rfl (.tmp 18) (.tmp 19) rfl Try.elRe rfl HRW.out R0 i rfl rfl hin ?_
    intro b3 o3 hc3
    have hd3 : ∀ w', Chg [g] w3 w' → w'.cell? ⟨b3, o3 + 2, none⟩ = some (.slice y.a y.n y.c) := fun w' h => (hc3 2 (by decide) w' h).trans (re_get HY.out 2 (by decide))
    clear hc3
    iterate 2 ((refine wpZ_q rfl rfl _ (fun w' hx' => by go_simp; try rfl) ?_; go_simp))
    refine wpZ_q rfl rfl (.slice y.a y.n y.c) (fun w' hx' => by have hb' := hd3 w' hx'; go_simp; try rfl) ?_
    go_simp
    refine wpZ_l rfl rfl ?_
    go_simp
    have HR4 := HR3.out.ext (Ext.drew' w3)
    have hB4 : B ≤ w3.drew.heap.size := by have := HBB.out; have := HX3.out.size; show B ≤ w3.heap.size; omega
    refine (use38r_any B room i a n c L y _ HR4 HY.out hB4).mono ?_
    rintro en w4 ⟨a4, n4, c4, rfl, hR4, hx4⟩
    have hx34 : Ext w3 w4 := (Ext.drew' w3).trans' hx4
    refine ⟨Chg.of_ext hx34, ?_⟩
    go_simp
    have hh4 := hx34.heap' HHG.out
    refine wpZ_l rfl rfl (wp_store_row _ _ _ rfl g #[.int .i64 room, .slice a4 n4 c4] rfl rfl _ _ hh4 (by kernel_rfl) rfl (by simp [Value.oneCell']) ?_)
    have hc5 : Chg [g] w4 (w4.setRow g #[.int .i64 room, .slice a4 n4 c4]) := Chg.of_grown (grown_setRow w4 g _) (List.mem_singleton.2 rfl)
    have hh5 := setRow_heap w4 g _ #[.int .i64 room, .slice a4 n4 c4] _ _ hh4
    have hx5 : Ext w (w4.setRow g #[.int .i64 room, .slice a4 n4 c4]) := (HX3.out.trans' hx34).setRow (by have := HGE.out; omega)
    have hO5 := own_chgT hR4.own hc5 (one_type hh4 (by decide))
    refine ⟨fun _ => (Chg.of_ext hx34).trans' hc5, ?_⟩
    generalize w4.setRow g #[.int .i64 room, .slice a4 n4 c4] = w5 at hc5 hh5 hx5 hO5 ⊢
    iterate 2 ((refine wpZ_q rfl rfl _ (fun w' hx' => by go_simp; try rfl) ?_; go_simp))
    refine wpZ_nil ?_
    go_wp2
    refine bodyPost_ret (results_c2 (ty := 28) rfl _ g [.int .i64 room, .slice a4 n4 c4] _ rfl (range_of_heap2 hh5) Try.underlying28 rfl (by kernel_rfl)) rfl ?_
    rw [HV.out]
    exact ⟨a4, n4, c4, _, y.a, y.n, y.c, rfl, ⟨hO5, fun k hk => own_ext (HH.out.data k (useL_mem HY.out hk)) hx5, hR4.ok, hR4.max⟩, HUS.out, own_ext (HH.out.data y (List.mem_of_getElem? HY.out)) hx5, hx5, fun k hk => .inl (useL_mem HY.out hk)⟩
end Go.Proofs.Ytpiodpljiklfkaa
