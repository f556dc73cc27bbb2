/-
  The reference's caches: without.
-/
import Derived.Test.YtpiodpljiklfkaaRefF
namespace Go.Proofs.Ytpiodpljiklfkaa
open Go.RowKit
/-- A cache in a box, and a box for the answer. -/
def boxed2 (w : World) (room : Nat) (a : Option Addr) (n c : Nat) : World := (w.alloc (.cells #[.int .i64 room, .slice a n c] 28)).alloc (.cells #[.int .i64 0, .slice none 0 0] 28)
theorem boxed2_ext (w : World) (room : Nat) (a : Option Addr) (n c : Nat) : Ext w (boxed2 w room a n c) := (Ext.alloc' _ _).trans' (Ext.alloc' _ _)
theorem boxed2_one (w : World) (room : Nat) (a : Option Addr) (n c : Nat) : (boxed2 w room a n c).heap[w.heap.size]? = some (.cells #[.int .i64 room, .slice a n c] 28 (0, 0)) := (Ext.alloc' _ _).heap' (heap_alloc_new w _)
theorem boxed2_two (w : World) (room : Nat) (a : Option Addr) (n c : Nat) : (boxed2 w room a n c).heap[w.heap.size + 1]? = some (.cells #[.int .i64 0, .slice none 0 0] 28 (0, 0)) := by
  rw [← World.size_alloc w (.cells #[.int .i64 room, .slice a n c] 28)]
  exact heap_alloc_new _ _

set_option maxRecDepth 100000 in
set_option maxHeartbeats 4000000 in
theorem without38_any (B room i : Nat) (a : Option Addr) (n c : Nat) (L : List Re) (w : World) (h : Rc w B room a n c L) (hi : i < n) :
    Calls Try.prog 64 #[.agg #[.int .i64 room, .slice a n c], .int .i64 i] w (fun en w' => ∃ (a' : Option Addr) (c' : Nat), en = .returned (.agg #[.int .i64 room, .slice a' (n - 1) c']) ∧ w'.ownsRow w.heap.size 106 4 (.slice a' (n - 1) c') (n - 1) ((cutL L i).flatMap Re.cells) ∧ Ext w w') := by
  have hln := h.len
  have hfew := h.few
  have HL := Lib.hid hln
  have hx1 := boxed2_ext w room a n c
  have HX := Lib.hid hx1
  have hh1 := boxed2_one w room a n c
  have hh2 := boxed2_two w room a n c
  have HR := Lib.hid (h.row.ext hx1)
  clear hln h
  go_enter Try.func64, Try.ntmps64
  go_upto_region 1 with fail
  change Code.wp _ _ _ _ (boxed2 w room a n c)
  generalize boxed2 w room a n c = w2 at hx1 hh1 hh2 HX HR ⊢
  have HB0 := Lib.hid fun w' (h : Ext w2 w') => cell_of_row w' w.heap.size 0 _ _ _ (h.heap' hh1)
  have HB1 := Lib.hid fun w' (h : Ext w2 w') => cell_of_row w' w.heap.size 1 _ _ _ (h.heap' hh1)
  have HH2 := Lib.hid hh2
  clear hx1 hh1 hh2
  refine wp_region_e [14] (.qs [0, 1, 2, 3, 4, 5, 7, 8, 9, 10, 11] (.l 6 (.l 12 (.qs [13] (.l 14 .nil))))) (by kernel_rfl) (by kernel_rfl) ?_
  ((refine wpY_q rfl rfl _ (fun w' hx' => by go_simp; try rfl) ?_; go_simp))
  refine wpY_q rfl rfl (.int .i64 room) (fun w' hx' => by have hb' := HB0.out w' hx'; go_simp; try rfl) ?_
  go_simp
  ((refine wpY_q rfl rfl _ (fun w' hx' => by go_simp; try rfl) ?_; go_simp))
  refine wpY_q rfl rfl (.slice a n c) (fun w' hx' => by have hb' := HB1.out w' hx'; go_simp; try rfl) ?_
  go_simp
  ((refine wpY_q rfl rfl _ (fun w' hx' => by go_simp; try rfl) ?_; go_simp))
  refine wpY_sl_hi rfl rfl (.tmp 8) (.tmp 9) rfl Try.elRe rfl (fun w' h => HR.out.ext h) i rfl rfl (Nat.le_of_lt hi) ?_
  intro a3 hr3
  go_simp
  ((refine wpY_q rfl rfl _ (fun w' hx' => by go_simp; try rfl) ?_; go_simp))
  refine wpY_q rfl rfl (.slice a n c) (fun w' hx' => by have hb' := HB1.out w' hx'; go_simp; try rfl) ?_
  go_simp
  iterate 2 ((refine wpY_q rfl rfl _ (fun w' hx' => by go_simp; try rfl) ?_; go_simp))
  refine wpY_sl_lo rfl rfl (.tmp 13) (.tmp 15) rfl Try.elRe rfl (fun w' h => HR.out.ext h) (i + 1) rfl (by rw [IntKind.wrap_i64]; omega) (by omega) ?_
  intro a4 hr4
  go_simp
  have E2 := Ext.drew' w2
  refine wpY_l rfl rfl (owp_clone (.const (.slice none 0 0)) (.tmp 10) rfl Try.elRe rfl rfl (hr3 _ E2) (fun u hu => re_oneCell L u (List.mem_of_mem_take hu)) (by omega) ?_)
  intro a5 c5 w5 ho5 hx5
  refine ⟨fun _ => E2.trans' hx5, ?_⟩
  go_simp
  refine wpY_l rfl rfl (owp_app (.tmp 11) (.tmp 16) rfl Try.elRe rfl ho5 rfl (hr4 _ (E2.trans' hx5)) (fun u hu => re_oneCell L u (List.mem_of_mem_drop hu)) (by omega) (by unfold maxLen; omega) hx5.size ?_)
  intro a6 c6 w6 ho6 hg6
  have hx6 : Ext w2 w6 := below_app (E2.trans' hx5) ho5 hg6 (E2.trans' hx5).size
  refine ⟨fun _ => hx6, ?_⟩
  go_simp
  have hh6 := hx6.heap' HH2.out
  have hnn : i + (n - (i + 1)) = n - 1 := by omega
  have ho7 : w6.ownsRow w2.heap.size 106 4 (.slice a6 (n - 1) c6) (n - 1) ((cutL L i).flatMap Re.cells) := by
    rw [re_take, re_drop, ← List.flatMap_append, hnn] at ho6
    exact ho6
  rw [hnn]
  clear ho6 hg6
  ((refine wpY_q rfl rfl _ (fun w' hx' => by go_simp; try rfl) ?_; go_simp))
  go_simp
  refine wpY_l rfl rfl (wp_store_row _ _ _ rfl (w.heap.size + 1) #[.int .i64 room, .slice a6 (n - 1) c6] rfl rfl _ _ hh6 (by kernel_rfl) rfl (by simp [Value.oneCell']) ?_)
  have hsz := HX.out.size
  have hx7 : Ext w (w6.setRow (w.heap.size + 1) #[.int .i64 room, .slice a6 (n - 1) c6]) := (HX.out.trans' hx6).setRow (by omega)
  have ho8 := own_other ho7 (grown_setRow w6 (w.heap.size + 1) #[.int .i64 room, .slice a6 (n - 1) c6]) (fun e => own_apart ho7 hh6 (by decide) e.symm)
  refine ⟨fun h => absurd h (by decide), wpY_nil ?_⟩
  go_wp2
  refine bodyPost_ret (results_cells rfl _ (w.heap.size + 1) [.int .i64 room, .slice a6 (n - 1) c6] _ rfl (fun i v hi => by rw [cell_of_row _ _ i _ _ _ (setRow_heap _ _ _ _ _ _ hh6)]; simpa using hi) Try.underlying28 rfl (by kernel_rfl)) rfl ?_
  exact ⟨a6, c6, rfl, own_base ho8 hsz, hx7⟩
end Go.Proofs.Ytpiodpljiklfkaa
