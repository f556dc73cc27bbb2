/-
  The reference's caches: use.
-/
import Derived.Test.YtpiodpljiklfkaaRefG
import Derived.Test.YtpiodpljiklfkaaCacK
namespace Go.Proofs.Ytpiodpljiklfkaa
open Go.RowKit
/-- A reference's cache as an answer. -/
def RcTo (w : World) (B room : Nat) (L' : List Re) (en : Ending) (w' : World) : Prop :=
  ∃ (a : Option Addr) (n c : Nat), en = .returned (.agg #[.int .i64 room, .slice a n c]) ∧ Rc w' B room a n c L' ∧ Ext w w'
theorem useL_ok {room : Nat} {L : List Re} {i : Nat} {y : Re} (h : OkE room (L.map Re.en)) (hy : L[i]? = some y) : OkE room ((cutL L i ++ [y]).map Re.en) := by
  rw [cutL_use hy]
  exact h.use i
theorem useL_mem {L : List Re} {i : Nat} {y k : Re} (hy : L[i]? = some y) (h : k ∈ cutL L i ++ [y]) : k ∈ L := by
  rcases List.mem_append.1 h with h | h
  · exact cutL_mem h
  · rw [List.mem_singleton.1 h]
    exact List.mem_of_getElem? hy

/-- A struct in a new block. -/
theorem put_new (w : World) (z cs : Array Value) (t : TypeId) : Ext w ((w.alloc (.cells z t)).setRow w.heap.size cs) ∧ ((w.alloc (.cells z t)).setRow w.heap.size cs).heap[w.heap.size]? = some (.cells cs t (0, 0)) :=
  ⟨(Ext.alloc' w _).setRow (Nat.le_refl _), setRow_heap _ _ _ _ _ _ (heap_alloc_new w _)⟩
theorem range_heap {w : World} {g : Nat} {cs : List Value} {t : TypeId} (h : w.heap[g]? = some (.cells cs.toArray t (0, 0))) : w.rangeAt g 0 cs := fun j v hj => by
  rw [Nat.zero_add, cell_of_row _ _ _ _ _ _ h]
  simpa using hj
theorem grown_box {w w' : World} {B e s n c g : Nat} {a : Option Addr} {xs : List Value} {cs : Array Value} {t : TypeId} (hg : w.grownBy w' (blockOf a)) (ho : w.ownsRow B e s (.slice a n c) n xs) (hk : w.heap[g]? = some (.cells cs t (0, 0))) (ht : t ≠ e) : w'.heap[g]? = some (.cells cs t (0, 0)) :=
  (hg.block g (Array.getElem?_eq_some_iff.1 hk).1 (own_apart ho hk ht)).trans hk

set_option maxRecDepth 100000 in
set_option maxHeartbeats 4000000 in
theorem use38r_any (B room i : Nat) (a : Option Addr) (n c : Nat) (L : List Re) (y : Re) (w : World) (h : Rc w B room a n c L) (hy : L[i]? = some y) (hB : B ≤ w.heap.size) :
    Calls Try.prog 63 #[.agg #[.int .i64 room, .slice a n c], .int .i64 i] w (RcTo w B room (cutL L i ++ [y])) := by
  have hln := h.len
  have hfew := h.few
  have hi : i < n := by have := (List.getElem?_eq_some_iff.1 hy).1; omega
  have HL := Lib.hid hln
  have HH := Lib.hid h
  have HY := Lib.hid hy
  have HBB := Lib.hid hB
  have hx1 := boxed2_ext w room a n c
  have HX := Lib.hid hx1
  have hh1 := boxed2_one w room a n c
  have hh2 := boxed2_two w room a n c
  have HR := Lib.hid (h.ext hx1)
  clear hln h hB hy
  go_enter Try.func63, Try.ntmps63
  go_upto_region 1 with fail
  change Code.wp _ _ _ _ (boxed2 w room a n c)
  generalize boxed2 w room a n c = w2 at hx1 hh1 hh2 HX HR ⊢
  have HB := Lib.hid fun w' (h : Ext w2 w') => cell_of_row w' w.heap.size 1 _ _ _ (h.heap' hh1)
  have HG := Lib.hid fun w' (h : Ext w2 w') => range_of_heap2 (h.heap' hh1)
  have HH2 := Lib.hid hh2
  have hcb := HB.out w2 (Below.refl _ _)
  have hrow := HR.out.row
  clear hx1 hh1 hh2
  have HP := Lib.hid (put_new w2 #[.int .u64 0, .int .i64 0, .slice none 0 0, .int .i64 0] #[.int .u64 y.s, .int .i64 y.z, .slice y.a y.n y.c, .int .i64 y.p] 106)
  have HN := Lib.hid (heap_alloc_new w2 (.cells #[.int .u64 0, .int .i64 0, .slice none 0 0, .int .i64 0] 106))
  go_upto_region 2 with (first
    | ((with_reducible refine atSlot 10 ?_); refine wpList_of_wp rfl (owp_ix (o := ⟨some 10, _, _, _, _, _⟩) _ _ rfl Try.elRe rfl hrow i rfl rfl hi ?_); intro b3 o3 hc3; have hr3 := re_range HY.out hc3; clear hc3)
    | ((with_reducible refine atSlot 11 ?_); refine wpList_of_wp rfl (wp_load_mid (op := ⟨some 11, _, _, _, _, _⟩) 106 _ rfl b3 o3 rfl [.int .u64 y.s, .int .i64 y.z, .slice y.a y.n y.c, .int .i64 y.p] _ hr3 Try.underlying106 rfl (by kernel_rfl) ?_); clear hr3)
    | ((with_reducible refine atStore 5 ?_); refine wpList_of_wp rfl (wp_store_row (o := ⟨none, _, _, _, _, _⟩) _ _ _ rfl w2.heap.size #[.int .u64 y.s, .int .i64 y.z, .slice y.a y.n y.c, .int .i64 y.p] rfl rfl _ _ HN.out (by kernel_rfl) rfl (by simp [Value.oneCell']) ?_))
    | fail)
  obtain ⟨hx3, hh3⟩ := HP.out
  clear hcb hrow HP HN
  generalize (w2.alloc (.cells #[.int .u64 0, .int .i64 0, .slice none 0 0, .int .i64 0] 106)).setRow w2.heap.size #[.int .u64 y.s, .int .i64 y.z, .slice y.a y.n y.c, .int .i64 y.p] = w3 at hx3 hh3 ⊢
  have hrg := HG.out w3 hx3
  have HW := Lib.hid (without38_any B room i a n c L w3 (HR.out.ext hx3) hi)
  have HH3 := Lib.hid hh3
  have HX3 := Lib.hid hx3
  clear hh3 hx3
  go_upto_region 3 with (first
    | ((with_reducible refine atSlot 12 ?_); refine wpList_of_wp rfl (wp_load_mid (op := ⟨some 12, _, _, _, _, _⟩) 28 _ rfl w.heap.size 0 rfl [.int .i64 room, .slice a n c] _ hrg Try.underlying28 rfl (by kernel_rfl) ?_); clear hrg)
    | (go_at_call 64; (with_reducible refine HW.out.mono ?_); rintro en w4 ⟨a4, c4, rfl, ho4, hx4⟩; have HO4 := Lib.hid ho4; have HX4 := Lib.hid hx4; clear ho4 hx4; have HP := Lib.hid (put_new w4 #[.int .i64 0, .slice none 0 0] #[.int .i64 room, .slice a4 (n - 1) c4] 28); have HN := Lib.hid (heap_alloc_new w4 (.cells #[.int .i64 0, .slice none 0 0] 28)))
    | ((with_reducible refine atStore 6 ?_); refine wpList_of_wp rfl (wp_store_row (o := ⟨none, _, _, _, _, _⟩) _ _ _ rfl w4.heap.size #[.int .i64 room, .slice a4 (n - 1) c4] rfl rfl _ _ HN.out (by kernel_rfl) rfl (by simp [Value.oneCell']) ?_))
    | fail)
  obtain ⟨hx5, hh5⟩ := HP.out
  clear HP HN HW
  generalize (w4.alloc (.cells #[.int .i64 0, .slice none 0 0] 28)).setRow w4.heap.size #[.int .i64 room, .slice a4 (n - 1) c4] = w5 at hx5 hh5 ⊢
  have hc5 := cell_of_row w5 w4.heap.size 1 _ _ _ hh5
  have hr5 := range_heap (cs := [.int .u64 y.s, .int .i64 y.z, .slice y.a y.n y.c, .int .i64 y.p]) ((HX4.out.trans' hx5).heap' HH3.out)
  have ho5 := own_ext HO4.out hx5
  have hal := Ext.alloc' w5 (.cells #[.int .u64 y.s, .int .i64 y.z, .slice y.a y.n y.c, .int .i64 y.p] 106)
  have HO6 := Lib.hid (own_ext ho5 hal)
  have HH5 := Lib.hid (hal.heap' hh5)
  have HX5 := Lib.hid (HX4.out.trans' hx5)
  have hsz : w3.heap.size ≤ (w5.alloc (.cells #[.int .u64 y.s, .int .i64 y.z, .slice y.a y.n y.c, .int .i64 y.p] 106)).heap.size := (HX5.out.trans' hal).size
  have hone := re_oneCell [y]
  clear hx5 hh5 ho5 HO4
  go_upto_region 4 with (first
    | ((with_reducible refine atSlot 17 ?_); refine wpList_of_wp rfl (wp_load_mid (op := ⟨some 17, _, _, _, _, _⟩) 106 _ rfl w2.heap.size 0 rfl [.int .u64 y.s, .int .i64 y.z, .slice y.a y.n y.c, .int .i64 y.p] _ hr5 Try.underlying106 rfl (by kernel_rfl) ?_); clear hr5)
    | ((with_reducible refine atSlot 19 ?_); refine wpList_of_wp rfl (owp_app (o := ⟨some 19, _, _, _, _, _⟩) _ _ rfl Try.elRe rfl HO6.out rfl (Row.new w5 #[.int .u64 y.s, .int .i64 y.z, .slice y.a y.n y.c, .int .i64 y.p] 106 1 4 rfl (by decide)) hone (by omega) (by unfold maxLen; omega) hsz ?_); intro a7 c7 w7 ho7 hg7; have hh7 := grown_box hg7 HO6.out HH5.out (by decide); refine Stop.of ?_)
    | fail)
  have hnn : n - 1 + 1 = n := by omega
  rw [hnn] at ho7 ⊢
  have hwx : Ext w3 w7 := below_app (HX5.out.trans' hal) HO6.out hg7 hsz
  have hth : w7.there w4.heap.size 1 1 := there_box' hh7 (by show 1 + 1 ≤ 2; decide)
  have ho8 := own_other ho7 (grown_setCell' w7 w4.heap.size 1 (Value.slice a7 n c7)) (fun e => own_apart ho7 hh7 (by decide) e.symm)
  have hh8 : (w7.setCell ⟨w4.heap.size, 1, none⟩ (Value.slice a7 n c7)).heap[w4.heap.size]? = some (.cells #[.int .i64 room, .slice a7 n c7] 28 (0, 0)) := heap_setCell_same w7 w4.heap.size 1 _ _ (Value.slice a7 n c7) hh7
  have hz4 : w3.heap.size ≤ w4.heap.size := HX4.out.size
  have hx8 : Ext w3 (w7.setCell ⟨w4.heap.size, 1, none⟩ (Value.slice a7 n c7)) := hwx.setCell hz4 _
  clear hone hg7 hal hsz HO6 HH5
  refine Stop.out ?_
  go_upto_region 4 with (first
    | ((with_reducible refine atStore 20 ?_); refine wpList_of_wp rfl (owp_st1 (o := ⟨none, _, _, _, _, _⟩) 26 _ _ rfl w4.heap.size 1 (.slice a7 n c7) rfl rfl rfl hth (by kernel_rfl) rfl ?_))
    | fail)
  clear hth
  generalize w7.setCell ⟨w4.heap.size, 1, none⟩ (Value.slice a7 n c7) = w8 at ho8 hh8 hx8 ⊢
  have hr8 := range_of_heap2 hh8
  have hx38 := HX3.out.trans' hx8
  have hh9 := hx38.heap' HH2.out
  have HF := Lib.hid (setRow_heap w8 (w.heap.size + 1) _ #[.int .i64 room, .slice a7 n c7] _ _ hh9)
  have hw2 : w.heap.size ≤ w3.heap.size := (HX.out.trans' HX3.out).size
  have HXF := Lib.hid ((HX.out.trans' hx38).setRow (g := w.heap.size + 1) (cs := #[.int .i64 room, .slice a7 n c7]) (by omega))
  have HOF := Lib.hid (own_other ho8 (grown_setRow w8 (w.heap.size + 1) #[.int .i64 room, .slice a7 n c7]) (fun e => own_apart ho8 hh9 (by decide) e.symm))
  clear hh8 hx8 hx38 ho8 hh7 ho7 hwx
  go_wp2_with (first
    | ((with_reducible refine atSlot 21 ?_); refine wpList_of_wp rfl (wp_load_mid (op := ⟨some 21, _, _, _, _, _⟩) 28 _ rfl w4.heap.size 0 rfl [.int .i64 room, .slice a7 n c7] _ hr8 Try.underlying28 rfl (by kernel_rfl) ?_); clear hr8)
    | ((with_reducible refine atStore 4 ?_); refine wpList_of_wp rfl (wp_store_row (o := ⟨none, _, _, _, _, _⟩) _ _ _ rfl (w.heap.size + 1) #[.int .i64 room, .slice a7 n c7] rfl rfl _ _ hh9 (by kernel_rfl) rfl (by simp [Value.oneCell']) ?_))
    | fail)
  refine bodyPost_ret (results_cells rfl _ (w.heap.size + 1) [.int .i64 room, .slice a7 n c7] _ rfl (fun i v hi => by rw [cell_of_row _ _ i _ _ _ HF.out]; simpa using hi) Try.underlying28 rfl (by kernel_rfl)) rfl ?_
  have ho := HOF.out
  have hB := HBB.out
  rw [← hnn] at ho
  refine ⟨a7, n, c7, rfl, ⟨?_, fun k hk => own_ext (HH.out.data k (useL_mem HY.out hk)) HXF.out, useL_ok HH.out.ok HY.out, HH.out.max⟩, HXF.out⟩
  rw [List.flatMap_append]
  exact own_base HOF.out (by omega)
end Go.Proofs.Ytpiodpljiklfkaa
