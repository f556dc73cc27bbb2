import Derived.Test.YtncdcpaelecikaaPackC
namespace Go.Proofs.Ytncdcpaelecikaa
open Go.RowKit

/-- Is the chunk right? -/
def rightB (s : Nat) (z : Int) (l : List UInt8) : Bool := decide (1 ≤ z) && decide (z ≤ 8192) && decide ((l.length : Int) = z) && decide (fp l = s)


set_option maxRecDepth 100000 in
set_option maxHeartbeats 4000000 in
theorem right_any (s : Nat) (z : Int) (a : Option Addr) (n c : Nat) (l : List UInt8) (w : World) (hb : Bytes w a n c l) (hn : n ≤ 140737488355328) :
    Calls Try.prog 31 #[.agg #[.int .u64 s, .int .i64 z, .slice a n c]] w (NewNone (.bool (rightB s z l)) w) := by
  have HL := Lib.hid hb.len
  by_cases h1 : 1 ≤ z
  · by_cases h2 : z ≤ 8192
    · by_cases h3 : (n : Int) = z
      · have h3' : ((n : Int) == z) = true := by simpa using h3
        go_enter Try.func31, Try.ntmps31
        go_wp2
        refine wp_region_x [(0, false), (1, false), (2, false), (3, false), (4, false), (5, false), (6, false), (7, false), (8, false), (9, false), (10, false), (11, false), (12, false), (13, false), (14, false), (15, false), (16, false), (17, false), (18, false), (19, false), (20, false), (21, false), (23, false), (24, false), (22, true), (25, false), (26, false), (27, false)] (by kernel_rfl) (by kernel_rfl) ?_
        obtain ⟨w1, hw1⟩ : ∃ w1, w1 = (w.alloc (.cells #[.int .u64 s, .int .i64 z, .slice a n c] 46)).drew := ⟨_, rfl⟩
        rw [← hw1]
        have e1 : Ext w w1 := by rw [hw1]; exact (Ext.alloc' _ _).trans' (Ext.drew' _)
        have hA : w1.heap[w.heap.size]? = some (.cells #[.int .u64 s, .int .i64 z, .slice a n c] 46) := by
          rw [hw1]; exact heap_alloc_new w _
        clear hw1
        have hA0 : ∀ w' j, Ext w1 w' → w'.cell? ⟨w.heap.size, j, none⟩ = #[.int .u64 s, .int .i64 z, .slice a n c][j]? := fun w' j hx => cell_of_row _ _ _ _ _ _ (hx.heap' hA)
        clear hA
        have e1' := Lib.hid e1
        clear e1
        iterate 24 (first | ((refine wpX_q rfl rfl _ (fun w' hx' => by go_simp; try rfl) ?_; go_simp)) | ((refine wpX_skip rfl rfl ?_; go_simp)))
        refine wpX_l rfl rfl ?_
        go_simp
        refine (Of_any a n c l w1 (hb.ext e1'.out) hn).mono ?_
        rintro e w2 ⟨rfl, hx2⟩
        refine ⟨hx2, ?_⟩
        go_simp
        by_cases h4 : (fp l : Int) = s
        · have h4' : ((fp l : Int) == s) = true := by simpa using h4
          ((refine wpX_q rfl rfl _ (fun w' hx' => by go_simp; try rfl) ?_; go_simp))
          ((refine wpX_q rfl rfl _ (fun w' hx' => by go_simp; try rfl) ?_; go_simp))
          ((refine wpX_q rfl rfl _ (fun w' hx' => by go_simp; try rfl) ?_; go_simp))
          refine wpX_nil ?_
          go_wp2
          go_ret
          exact ⟨ret_bool (by have := HL.out; unfold rightB; simp; omega), e1'.out.trans' hx2⟩
        · have h4' : ((fp l : Int) == s) = false := by simpa using h4
          ((refine wpX_q rfl rfl _ (fun w' hx' => by go_simp; try rfl) ?_; go_simp))
          ((refine wpX_q rfl rfl _ (fun w' hx' => by go_simp; try rfl) ?_; go_simp))
          ((refine wpX_q rfl rfl _ (fun w' hx' => by go_simp; try rfl) ?_; go_simp))
          refine wpX_nil ?_
          go_wp2
          go_ret
          exact ⟨ret_bool (by have := HL.out; unfold rightB; simp; omega), e1'.out.trans' hx2⟩
      · have h3' : ((n : Int) == z) = false := by simpa using h3
        go_enter Try.func31, Try.ntmps31
        go_wp2
        refine wp_region_x [(0, false), (1, false), (2, false), (3, false), (4, false), (5, false), (6, false), (7, false), (8, false), (9, false), (10, false), (11, false), (12, false), (13, false), (14, false), (15, false), (16, false), (17, false), (18, false), (19, false), (20, false), (21, false), (23, false), (24, false), (22, true), (25, false), (26, false), (27, false)] (by kernel_rfl) (by kernel_rfl) ?_
        obtain ⟨w1, hw1⟩ : ∃ w1, w1 = (w.alloc (.cells #[.int .u64 s, .int .i64 z, .slice a n c] 46)).drew := ⟨_, rfl⟩
        rw [← hw1]
        have e1 : Ext w w1 := by rw [hw1]; exact (Ext.alloc' _ _).trans' (Ext.drew' _)
        have hA : w1.heap[w.heap.size]? = some (.cells #[.int .u64 s, .int .i64 z, .slice a n c] 46) := by
          rw [hw1]; exact heap_alloc_new w _
        clear hw1
        have hA0 : ∀ w' j, Ext w1 w' → w'.cell? ⟨w.heap.size, j, none⟩ = #[.int .u64 s, .int .i64 z, .slice a n c][j]? := fun w' j hx => cell_of_row _ _ _ _ _ _ (hx.heap' hA)
        clear hA
        have e1' := Lib.hid e1
        clear e1
        iterate 24 (first | ((refine wpX_q rfl rfl _ (fun w' hx' => by go_simp; try rfl) ?_; go_simp)) | ((refine wpX_skip rfl rfl ?_; go_simp)))
        refine wpX_lskip rfl rfl ?_
        go_simp
        iterate 3 (first | ((refine wpX_q rfl rfl _ (fun w' hx' => by go_simp; try rfl) ?_; go_simp)) | ((refine wpX_skip rfl rfl ?_; go_simp)))
        refine wpX_nil ?_
        go_wp2
        go_ret
        exact ⟨ret_bool (by have := HL.out; unfold rightB; simp; omega), e1'.out⟩
    · have h2' : decide (z ≤ 8192) = false := by simpa using h2
      go_enter Try.func31, Try.ntmps31
      go_wp2
      refine wp_region_x [(0, false), (1, false), (2, false), (3, false), (4, false), (5, false), (6, false), (7, false), (8, false), (9, false), (10, false), (11, false), (12, false), (13, false), (14, false), (15, false), (16, false), (17, false), (18, false), (19, false), (20, false), (21, false), (23, false), (24, false), (22, true), (25, false), (26, false), (27, false)] (by kernel_rfl) (by kernel_rfl) ?_
      obtain ⟨w1, hw1⟩ : ∃ w1, w1 = (w.alloc (.cells #[.int .u64 s, .int .i64 z, .slice a n c] 46)).drew := ⟨_, rfl⟩
      rw [← hw1]
      have e1 : Ext w w1 := by rw [hw1]; exact (Ext.alloc' _ _).trans' (Ext.drew' _)
      have hA : w1.heap[w.heap.size]? = some (.cells #[.int .u64 s, .int .i64 z, .slice a n c] 46) := by
        rw [hw1]; exact heap_alloc_new w _
      clear hw1
      have hA0 : ∀ w' j, Ext w1 w' → w'.cell? ⟨w.heap.size, j, none⟩ = #[.int .u64 s, .int .i64 z, .slice a n c][j]? := fun w' j hx => cell_of_row _ _ _ _ _ _ (hx.heap' hA)
      clear hA
      have e1' := Lib.hid e1
      clear e1
      iterate 24 (first | ((refine wpX_q rfl rfl _ (fun w' hx' => by go_simp; try rfl) ?_; go_simp)) | ((refine wpX_skip rfl rfl ?_; go_simp)))
      refine wpX_lskip rfl rfl ?_
      go_simp
      iterate 3 (first | ((refine wpX_q rfl rfl _ (fun w' hx' => by go_simp; try rfl) ?_; go_simp)) | ((refine wpX_skip rfl rfl ?_; go_simp)))
      refine wpX_nil ?_
      go_wp2
      go_ret
      exact ⟨ret_bool (by have := HL.out; unfold rightB; simp; omega), e1'.out⟩
  · have h1' : decide (1 ≤ z) = false := by simpa using h1
    go_enter Try.func31, Try.ntmps31
    go_wp2
    refine wp_region_x [(0, false), (1, false), (2, false), (3, false), (4, false), (5, false), (6, false), (7, false), (8, false), (9, false), (10, false), (11, false), (12, false), (13, false), (14, false), (15, false), (16, false), (17, false), (18, false), (19, false), (20, false), (21, false), (23, false), (24, false), (22, true), (25, false), (26, false), (27, false)] (by kernel_rfl) (by kernel_rfl) ?_
    obtain ⟨w1, hw1⟩ : ∃ w1, w1 = (w.alloc (.cells #[.int .u64 s, .int .i64 z, .slice a n c] 46)).drew := ⟨_, rfl⟩
    rw [← hw1]
    have e1 : Ext w w1 := by rw [hw1]; exact (Ext.alloc' _ _).trans' (Ext.drew' _)
    have hA : w1.heap[w.heap.size]? = some (.cells #[.int .u64 s, .int .i64 z, .slice a n c] 46) := by
      rw [hw1]; exact heap_alloc_new w _
    clear hw1
    have hA0 : ∀ w' j, Ext w1 w' → w'.cell? ⟨w.heap.size, j, none⟩ = #[.int .u64 s, .int .i64 z, .slice a n c][j]? := fun w' j hx => cell_of_row _ _ _ _ _ _ (hx.heap' hA)
    clear hA
    have e1' := Lib.hid e1
    clear e1
    iterate 24 (first | ((refine wpX_q rfl rfl _ (fun w' hx' => by go_simp; try rfl) ?_; go_simp)) | ((refine wpX_skip rfl rfl ?_; go_simp)))
    refine wpX_lskip rfl rfl ?_
    go_simp
    iterate 3 (first | ((refine wpX_q rfl rfl _ (fun w' hx' => by go_simp; try rfl) ?_; go_simp)) | ((refine wpX_skip rfl rfl ?_; go_simp)))
    refine wpX_nil ?_
    go_wp2
    go_ret
    exact ⟨ret_bool (by have := HL.out; unfold rightB; simp; omega), e1'.out⟩

set_option maxRecDepth 100000 in
set_option maxHeartbeats 4000000 in
theorem refRight_any (s : Nat) (z : Int) (a : Option Addr) (n c : Nat) (l : List UInt8) (w : World) (hb : Bytes w a n c l) (hn : n ≤ 140737488355328) :
    Calls Try.prog 35 #[.agg #[.int .u64 s, .int .i64 z, .slice a n c]] w (NewNone (.bool (rightB s z l)) w) := by
  have HL := Lib.hid hb.len
  by_cases h1 : 1 ≤ z
  · by_cases h2 : z ≤ 8192
    · go_enter Try.func35, Try.ntmps35
      go_wp2
      refine wp_region_x [(0, false), (1, false), (2, false), (3, false), (4, false), (5, false), (6, false), (7, false), (8, false), (9, false), (10, false), (11, false), (12, false), (13, false), (14, false), (15, true), (16, false), (17, false), (18, false)] (by kernel_rfl) (by kernel_rfl) ?_
      obtain ⟨w1, hw1⟩ : ∃ w1, w1 = (w.alloc (.cells #[.int .u64 s, .int .i64 z, .slice a n c] 46)).drew := ⟨_, rfl⟩
      rw [← hw1]
      have e1 : Ext w w1 := by rw [hw1]; exact (Ext.alloc' _ _).trans' (Ext.drew' _)
      have hA : w1.heap[w.heap.size]? = some (.cells #[.int .u64 s, .int .i64 z, .slice a n c] 46) := by
        rw [hw1]; exact heap_alloc_new w _
      clear hw1
      have hA0 : ∀ w' j, Ext w1 w' → w'.cell? ⟨w.heap.size, j, none⟩ = #[.int .u64 s, .int .i64 z, .slice a n c][j]? := fun w' j hx => cell_of_row _ _ _ _ _ _ (hx.heap' hA)
      clear hA
      have e1' := Lib.hid e1
      clear e1
      iterate 15 (first | ((refine wpX_q rfl rfl _ (fun w' hx' => by go_simp; try rfl) ?_; go_simp)) | ((refine wpX_skip rfl rfl ?_; go_simp)))
      refine wpX_l rfl rfl ?_
      go_simp
      refine (refOf_any a n c l w1 (hb.ext e1'.out) hn).mono ?_
      rintro e w2 ⟨rfl, hx2⟩
      refine ⟨hx2, ?_⟩
      go_simp
      by_cases h4 : (s : Int) = fp l
      · have h4' : ((s : Int) == fp l) = true := by simpa using h4
        by_cases h3 : z = (n : Int)
        · have h3' : (z == (n : Int)) = true := by simpa using h3
          ((refine wpX_q rfl rfl _ (fun w' hx' => by go_simp; try rfl) ?_; go_simp))
          ((refine wpX_q rfl rfl _ (fun w' hx' => by go_simp; try rfl) ?_; go_simp))
          ((refine wpX_q rfl rfl _ (fun w' hx' => by go_simp; try rfl) ?_; go_simp))
          refine wpX_nil ?_
          go_wp2
          go_ret
          exact ⟨ret_bool (by have := HL.out; unfold rightB; simp; omega), e1'.out.trans' hx2⟩
        · have h3' : (z == (n : Int)) = false := by simpa using h3
          ((refine wpX_q rfl rfl _ (fun w' hx' => by go_simp; try rfl) ?_; go_simp))
          ((refine wpX_q rfl rfl _ (fun w' hx' => by go_simp; try rfl) ?_; go_simp))
          ((refine wpX_q rfl rfl _ (fun w' hx' => by go_simp; try rfl) ?_; go_simp))
          refine wpX_nil ?_
          go_wp2
          go_ret
          exact ⟨ret_bool (by have := HL.out; unfold rightB; simp; omega), e1'.out.trans' hx2⟩
      · have h4' : ((s : Int) == fp l) = false := by simpa using h4
        ((refine wpX_q rfl rfl _ (fun w' hx' => by go_simp; try rfl) ?_; go_simp))
        ((refine wpX_q rfl rfl _ (fun w' hx' => by go_simp; try rfl) ?_; go_simp))
        ((refine wpX_q rfl rfl _ (fun w' hx' => by go_simp; try rfl) ?_; go_simp))
        refine wpX_nil ?_
        go_wp2
        go_ret
        exact ⟨ret_bool (by have := HL.out; unfold rightB; simp; omega), e1'.out.trans' hx2⟩
    · have h2' : decide (z ≤ 8192) = false := by simpa using h2
      go_enter Try.func35, Try.ntmps35
      go_wp2
      refine wp_region_x [(0, false), (1, false), (2, false), (3, false), (4, false), (5, false), (6, false), (7, false), (8, false), (9, false), (10, false), (11, false), (12, false), (13, false), (14, false), (15, true), (16, false), (17, false), (18, false)] (by kernel_rfl) (by kernel_rfl) ?_
      obtain ⟨w1, hw1⟩ : ∃ w1, w1 = (w.alloc (.cells #[.int .u64 s, .int .i64 z, .slice a n c] 46)).drew := ⟨_, rfl⟩
      rw [← hw1]
      have e1 : Ext w w1 := by rw [hw1]; exact (Ext.alloc' _ _).trans' (Ext.drew' _)
      have hA : w1.heap[w.heap.size]? = some (.cells #[.int .u64 s, .int .i64 z, .slice a n c] 46) := by
        rw [hw1]; exact heap_alloc_new w _
      clear hw1
      have hA0 : ∀ w' j, Ext w1 w' → w'.cell? ⟨w.heap.size, j, none⟩ = #[.int .u64 s, .int .i64 z, .slice a n c][j]? := fun w' j hx => cell_of_row _ _ _ _ _ _ (hx.heap' hA)
      clear hA
      have e1' := Lib.hid e1
      clear e1
      iterate 15 (first | ((refine wpX_q rfl rfl _ (fun w' hx' => by go_simp; try rfl) ?_; go_simp)) | ((refine wpX_skip rfl rfl ?_; go_simp)))
      refine wpX_lskip rfl rfl ?_
      go_simp
      iterate 3 (first | ((refine wpX_q rfl rfl _ (fun w' hx' => by go_simp; try rfl) ?_; go_simp)) | ((refine wpX_skip rfl rfl ?_; go_simp)))
      refine wpX_nil ?_
      go_wp2
      go_ret
      exact ⟨ret_bool (by have := HL.out; unfold rightB; simp; omega), e1'.out⟩
  · have h1' : decide (1 ≤ z) = false := by simpa using h1
    go_enter Try.func35, Try.ntmps35
    go_wp2
    refine wp_region_x [(0, false), (1, false), (2, false), (3, false), (4, false), (5, false), (6, false), (7, false), (8, false), (9, false), (10, false), (11, false), (12, false), (13, false), (14, false), (15, true), (16, false), (17, false), (18, false)] (by kernel_rfl) (by kernel_rfl) ?_
    obtain ⟨w1, hw1⟩ : ∃ w1, w1 = (w.alloc (.cells #[.int .u64 s, .int .i64 z, .slice a n c] 46)).drew := ⟨_, rfl⟩
    rw [← hw1]
    have e1 : Ext w w1 := by rw [hw1]; exact (Ext.alloc' _ _).trans' (Ext.drew' _)
    have hA : w1.heap[w.heap.size]? = some (.cells #[.int .u64 s, .int .i64 z, .slice a n c] 46) := by
      rw [hw1]; exact heap_alloc_new w _
    clear hw1
    have hA0 : ∀ w' j, Ext w1 w' → w'.cell? ⟨w.heap.size, j, none⟩ = #[.int .u64 s, .int .i64 z, .slice a n c][j]? := fun w' j hx => cell_of_row _ _ _ _ _ _ (hx.heap' hA)
    clear hA
    have e1' := Lib.hid e1
    clear e1
    iterate 15 (first | ((refine wpX_q rfl rfl _ (fun w' hx' => by go_simp; try rfl) ?_; go_simp)) | ((refine wpX_skip rfl rfl ?_; go_simp)))
    refine wpX_lskip rfl rfl ?_
    go_simp
    iterate 3 (first | ((refine wpX_q rfl rfl _ (fun w' hx' => by go_simp; try rfl) ?_; go_simp)) | ((refine wpX_skip rfl rfl ?_; go_simp)))
    refine wpX_nil ?_
    go_wp2
    go_ret
    exact ⟨ret_bool (by have := HL.out; unfold rightB; simp; omega), e1'.out⟩

end Go.Proofs.Ytncdcpaelecikaa
