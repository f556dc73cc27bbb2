import Derived.Test.YtncdcpaelecikaaPackB
import Derived.Deep.MidRow
namespace Go.Proofs.Ytncdcpaelecikaa
open Go.RowKit

section
variable {P : Program} {w : World}
theorem setRow_size (w : World) (g : Nat) (cs : Array Value) : (w.setRow g cs).heap.size = w.heap.size := by
  simp [World.setRow]
theorem results_cells {fn : Func} {p : Tmp} {ty : TypeId} (h : fn.results = #[.cell p ty]) (tmps : Array Value) (g : Nat) (cs : List Value) (d : TypeDesc)
    (hp : tmps.getD p undef = .pointer (some ⟨g, 0, none⟩)) (hc : ∀ j v, cs[j]? = some v → w.cell? ⟨g, j, none⟩ = some v)
    (hu : P.underlying ty = some d) (hd : d.isRow = true) (hi : (P.info? ty).map (·.size) = some cs.length) :
    (results fn tmps).run P w = .ok (.agg cs.toArray) w := by
  have hp' : tmps[p]?.getD undef = .pointer (some ⟨g, 0, none⟩) := by simpa using hp
  simp [results, h, hp', asAddr, run_loadVar_mid w g 0 ty cs d (fun j v hj => by simpa using hc j v hj) hu hd hi]
theorem frozen_none {g : Nat} {cs : Array Value} {t : TypeId} (h : w.heap[g]? = some (.cells cs t (0, 0))) (j : Nat) : w.frozen? ⟨g, j, none⟩ = false := by
  simp [World.frozen?, h]
end

set_option maxRecDepth 100000 in
theorem Of_any (a : Option Addr) (n c : Nat) (l : List UInt8) (w : World) (hb : Bytes w a n c l) (hn : n ≤ 140737488355328) :
    Calls Try.prog 48 #[.slice a n c] w (NewNone (.agg #[.int .u64 (fp l : Nat), .int .i64 n]) w) := by
  go_enter Try.func48, Try.ntmps48
  go_wp2_with (go_at_call 34; (with_reducible refine (Sum_any a n c l _ (hb.ext (Ext.alloc' _ _)) hn).mono ?_); rintro e w1 ⟨rfl, rfl⟩)
  refine bodyPost_ret (results_cell_row rfl _ _ w.heap.size 44 _ (0, 0) _ rfl (heap_alloc_new w _) Try.underlying44 rfl (by kernel_rfl)) rfl ?_
  exact ⟨rfl, Ext.alloc' w _⟩

set_option maxRecDepth 100000 in
theorem refOf_any (a : Option Addr) (n c : Nat) (l : List UInt8) (w : World) (hb : Bytes w a n c l) (hn : n ≤ 140737488355328) :
    Calls Try.prog 59 #[.slice a n c] w (NewNone (.agg #[.int .u64 (fp l : Nat), .int .i64 n]) w) := by
  go_enter Try.func59, Try.ntmps59
  go_wp2_with ((go_at_call 38; (with_reducible refine (refSum_any a n c l _ (hb.ext (Ext.alloc' _ _)) hn).mono ?_); rintro e w1 ⟨rfl, hx1⟩; have hh := hx1.heap' (heap_alloc_new w _); have hf1 := fun j => frozen_none hh j; have hc1 := fun j => cell_of_row w1 w.heap.size j _ _ _ hh; clear hh))
  refine bodyPost_ret (results_cells rfl _ w.heap.size [.int .u64 (fp l : Nat), .int .i64 n] _ rfl (fun j v hj => ?_) Try.underlying44 rfl (by kernel_rfl)) rfl ?_
  · rcases j with _ | _ | j
    · cases hj; go_simp
    · cases hj; go_simp
    · cases hj
  exact ⟨rfl, ((((Below.refl _ _).alloc (Nat.le_refl _) _).trans (hx1.mono (by simp))).setCell (Nat.le_refl _) _).setCell (Nat.le_refl _) _⟩

set_option maxRecDepth 100000 in
theorem Less_any (s t : Nat) (y z : Int) (w : World) :
    Calls Try.prog 36 #[.agg #[.int .u64 s, .int .i64 y], .agg #[.int .u64 t, .int .i64 z]] w (NewNone (.bool (decide (s < t ∨ s = t ∧ y < z))) w) := by
  by_cases h1 : (s : Int) < t
  · go_enter Try.func36, Try.ntmps36
    go_wp2
    go_ret
    exact ⟨ret_bool (by rw [Bool.eq_iff_iff]; simp; omega), (Ext.alloc' _ _).trans' (Ext.alloc' _ _)⟩
  · by_cases h2 : (s : Int) = t
    · have h2' : ((s : Int) == t) = true := by simpa using h2
      go_enter Try.func36, Try.ntmps36
      go_wp2
      go_ret
      exact ⟨ret_bool (by rw [Bool.eq_iff_iff]; simp; omega), (Ext.alloc' _ _).trans' (Ext.alloc' _ _)⟩
    · have h2' : ((s : Int) == t) = false := by simpa using h2
      go_enter Try.func36, Try.ntmps36
      go_wp2
      go_ret
      exact ⟨ret_bool (by rw [Bool.eq_iff_iff]; simp; omega), (Ext.alloc' _ _).trans' (Ext.alloc' _ _)⟩


def orI (x y : Int) : Int := if x = 0 then y else x
def OrRel (x y : Int) (_v i : Value) : Prop := i = .int .i64 0 ∨ i = .int .i64 1 ∧ x = 0 ∨ i = .int .i64 2 ∧ x = 0 ∧ y = 0

theorem Try.elI : Elem Try.prog 23 3 1 8 (.int .i64 0) := ⟨Try.underlying23, by kernel_rfl, rfl, by decide⟩

set_option maxRecDepth 100000 in
theorem Or0_any (a : Option Addr) (w : World) (hr : Row w a 2 2 1 [.int .i64 0, .int .i64 0]) :
    Calls Try.prog 51 #[.slice a 2 2] w (Ret (.int .i64 0) w) := by
  go_enter Try.func51, Try.ntmps51
  go_wp2
  go_loop [5, 8] (OrRel 0 0) (fun _ i => 2 - (intOf i).toNat)
  case atStart => exact .inl rfl
  case round =>
    rcases hrel with rfl | ⟨rfl, -⟩ | ⟨rfl, -, -⟩
    · go_wp2_with (refine wpList_ix rfl (.tmp 6) (.tmp 8) rfl Try.elI rfl hr 0 rfl rfl (by omega) ?_; intro b o hc; have hc0 : w.cell? ⟨b, o, none⟩ = some (.int .i64 0) := hc 0 (by omega))
      go_round
      case rel => exact .inr (.inl ⟨by go_num, rfl⟩)
      case measure => simp [intOf]
    · go_wp2_with (refine wpList_ix rfl (.tmp 6) (.tmp 8) rfl Try.elI rfl hr 1 rfl rfl (by omega) ?_; intro b o hc; have hc0 : w.cell? ⟨b, o, none⟩ = some (.int .i64 0) := hc 0 (by omega))
      go_round
      case rel => exact .inr (.inr ⟨by go_num, rfl, rfl⟩)
      case measure => simp [intOf]
    · go_wp2
      go_ret
      exact ⟨rfl, rfl⟩
set_option maxRecDepth 100000 in
theorem Or1_any (a : Option Addr) (y : Int) (w : World) (hr : Row w a 2 2 1 [.int .i64 0, .int .i64 y]) (hy : (y == 0) = false) :
    Calls Try.prog 51 #[.slice a 2 2] w (Ret (.int .i64 y) w) := by
  go_enter Try.func51, Try.ntmps51
  go_wp2
  go_loop [5, 8] (OrRel 0 y) (fun _ i => 2 - (intOf i).toNat)
  case atStart => exact .inl rfl
  case round =>
    rcases hrel with rfl | ⟨rfl, -⟩ | ⟨-, -, h⟩
    · go_wp2_with (refine wpList_ix rfl (.tmp 6) (.tmp 8) rfl Try.elI rfl hr 0 rfl rfl (by omega) ?_; intro b o hc; have hc0 : w.cell? ⟨b, o, none⟩ = some (.int .i64 0) := hc 0 (by omega))
      go_round
      case rel => exact .inr (.inl ⟨by go_num, rfl⟩)
      case measure => simp [intOf]
    · go_wp2_with (refine wpList_ix rfl (.tmp 6) (.tmp 8) rfl Try.elI rfl hr 1 rfl rfl (by omega) ?_; intro b o hc; have hc0 : w.cell? ⟨b, o, none⟩ = some (.int .i64 y) := hc 0 (by omega))
      go_ret
      exact ⟨rfl, rfl⟩
    · subst h; simp at hy
set_option maxRecDepth 100000 in
theorem Or2_any (a : Option Addr) (x y : Int) (w : World) (hr : Row w a 2 2 1 [.int .i64 x, .int .i64 y]) (hx : (x == 0) = false) :
    Calls Try.prog 51 #[.slice a 2 2] w (Ret (.int .i64 x) w) := by
  go_enter Try.func51, Try.ntmps51
  go_wp2
  go_loop [5, 8] (OrRel x y) (fun _ i => 2 - (intOf i).toNat)
  case atStart => exact .inl rfl
  case round =>
    rcases hrel with rfl | ⟨-, h⟩ | ⟨-, h, -⟩
    · go_wp2_with (refine wpList_ix rfl (.tmp 6) (.tmp 8) rfl Try.elI rfl hr 0 rfl rfl (by omega) ?_; intro b o hc; have hc0 : w.cell? ⟨b, o, none⟩ = some (.int .i64 x) := hc 0 (by omega))
      go_ret
      exact ⟨rfl, rfl⟩
    · subst h; simp at hx
    · subst h; simp at hx
theorem Or_any (a : Option Addr) (x y : Int) (w : World) (hr : Row w a 2 2 1 [.int .i64 x, .int .i64 y]) :
    Calls Try.prog 51 #[.slice a 2 2] w (Ret (.int .i64 (orI x y)) w) := by
  unfold orI
  by_cases hx : x = 0
  · subst hx
    rw [if_pos rfl]
    by_cases hy : y = 0
    · subst hy; exact Or0_any a w hr
    · exact Or1_any a y w hr (by simpa using hy)
  · rw [if_neg hx]; exact Or2_any a x y w hr (by simpa using hx)

set_option maxRecDepth 100000 in
theorem compareIDs_any (s t : Nat) (y z : Int) (w : World) :
    Calls Try.prog 32 #[.agg #[.int .u64 s, .int .i64 y], .agg #[.int .u64 t, .int .i64 z]] w (NewNone (.int .i64 (orI (cmpI s t) (cmpI y z))) w) := by
  go_enter Try.func32, Try.ntmps32
  go_wp2
  refine wp_region_x [(0, false), (1, false), (2, false), (3, false), (4, false), (5, false), (6, false), (7, false), (8, false), (9, false), (10, true), (11, false), (12, false)] (by kernel_rfl) (by kernel_rfl) ?_
  obtain ⟨w1, hw1⟩ : ∃ w1, w1 = ((w.alloc (.cells #[.int .u64 s, .int .i64 y] 44)).alloc (.cells #[.int .u64 t, .int .i64 z] 44)).drew := ⟨_, rfl⟩
  rw [← hw1]
  have e1 : Ext w w1 := by rw [hw1]; exact ((Ext.alloc' _ _).trans' (Ext.alloc' _ _)).trans' (Ext.drew' _)
  have hA : w1.heap[w.heap.size]? = some (.cells #[.int .u64 s, .int .i64 y] 44) := by
    rw [hw1]; exact ((Ext.alloc' (w.alloc _) _).block _ (by simp)).trans (heap_alloc_new w _)
  have hB : w1.heap[w.heap.size + 1]? = some (.cells #[.int .u64 t, .int .i64 z] 44) := by
    rw [hw1]; exact heap_alloc2_new w _ _
  clear hw1
  have hA0 : ∀ w' j, Ext w1 w' → w'.cell? ⟨w.heap.size, j, none⟩ = #[.int .u64 s, .int .i64 y][j]? := fun w' j hx => cell_of_row _ _ _ _ _ _ (hx.heap' hA)
  have hB0 : ∀ w' j, Ext w1 w' → w'.cell? ⟨w.heap.size + 1, j, none⟩ = #[.int .u64 t, .int .i64 z][j]? := fun w' j hx => cell_of_row _ _ _ _ _ _ (hx.heap' hB)
  clear hA hB
  ((refine wpX_q rfl rfl _ (fun w' hx' => by go_simp; try rfl) ?_; go_simp))
  ((refine wpX_q rfl rfl _ (fun w' hx' => by go_simp; try rfl) ?_; go_simp))
  ((refine wpX_q rfl rfl _ (fun w' hx' => by go_simp; try rfl) ?_; go_simp))
  ((refine wpX_q rfl rfl _ (fun w' hx' => by go_simp; try rfl) ?_; go_simp))
  ((refine wpX_call rfl rfl _ _ _ (fun w' => by (try go_simp); first | done | rfl | exact ⟨rfl, rfl⟩ | exact ⟨rfl, rfl, rfl⟩) (fun w' _ => Compare64_any s t w') ?_; go_simp))
  ((refine wpX_q rfl rfl _ (fun w' hx' => by go_simp; try rfl) ?_; go_simp))
  ((refine wpX_q rfl rfl _ (fun w' hx' => by go_simp; try rfl) ?_; go_simp))
  ((refine wpX_q rfl rfl _ (fun w' hx' => by go_simp; try rfl) ?_; go_simp))
  ((refine wpX_q rfl rfl _ (fun w' hx' => by go_simp; try rfl) ?_; go_simp))
  ((refine wpX_call rfl rfl _ _ _ (fun w' => by (try go_simp); first | done | rfl | exact ⟨rfl, rfl⟩ | exact ⟨rfl, rfl, rfl⟩) (fun w' _ => Comparei_any y z w') ?_; go_simp))
  refine wpX_l rfl rfl ?_
  go_simp
  refine ⟨Ext.alloc' _ _, ?_⟩
  ((refine wpX_call rfl rfl _ _ _ (fun w' => by (try go_simp); first | done | rfl | exact ⟨rfl, rfl⟩ | exact ⟨rfl, rfl, rfl⟩) (fun w' hx' => Or_any (some ⟨w1.heap.size, 0, none⟩) (cmpI s t) (cmpI y z) w' ((Row.new w1 #[.int .i64 (cmpI s t), .int .i64 (cmpI y z)] 3 2 1 rfl (by decide)).ext hx')) ?_; go_simp))
  ((refine wpX_q rfl rfl _ (fun w' hx' => by go_simp; try rfl) ?_; go_simp))
  refine wpX_nil ?_
  go_wp2
  go_ret
  exact ⟨rfl, e1.trans' (Ext.alloc' _ _)⟩
end Go.Proofs.Ytncdcpaelecikaa
