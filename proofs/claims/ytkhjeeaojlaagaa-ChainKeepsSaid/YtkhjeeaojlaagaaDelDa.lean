/-
  The reader of encoded deltas: number, op.
-/
import Derived.Test.YtkhjeeaojlaagaaDelR
import Derived.Test.YtkhjeeaojlaagaaMathL
namespace Go.Proofs.Ytkhjeeaojlaagaa
open Go.RowKit

/-- The reader in block g: the bytes' slice, the offset, whether it failed. -/
def Dr (w : World) (g : Nat) (V : Value) (at_ : Int) (fl : Bool) : Prop := w.heap[g]? = some (.cells #[V, .int .i64 at_, .bool fl] 107 (0, 0))
theorem Dr.ext {w w' : World} {g : Nat} {V : Value} {at_ : Int} {fl : Bool} (h : Dr w g V at_ fl) (hx : Ext w w') : Dr w' g V at_ fl := hx.heap' h
theorem Dr.set1 {w : World} {g : Nat} {V : Value} {at_ x : Int} {fl : Bool} (h : Dr w g V at_ fl) : Dr (w.setCell ⟨g, 1, none⟩ (.int .i64 x)) g V x fl := by
  unfold Dr at *
  simp [World.setCell, Array.getElem?_modify, h]
theorem Dr.set2 {w : World} {g : Nat} {V : Value} {at_ : Int} {fl x : Bool} (h : Dr w g V at_ fl) : Dr (w.setCell ⟨g, 2, none⟩ (.bool x)) g V at_ x := by
  unfold Dr at *
  simp [World.setCell, Array.getElem?_modify, h]
theorem Dr.lt {w : World} {g : Nat} {V : Value} {at_ : Int} {fl : Bool} (h : Dr w g V at_ fl) : g < w.heap.size := (Array.getElem?_eq_some_iff.1 h).1
def NumR (g : Nat) (V : Value) (w : World) (v : Int) (at_ : Int) (fl : Bool) (e : Ending) (w' : World) : Prop := e = .returned (.int .i64 v) ∧ Dr w' g V at_ fl ∧ w.grownBy w' (some g)

set_option maxRecDepth 100000 in
set_option maxHeartbeats 2000000 in
theorem number_ok (g : Nat) (a : Option Addr) (n c : Nat) (at_ nx v m : Nat) (l : List UInt8) (w : World) (hR : Dr w g (.slice a n c) at_ false) (hb : Bytes w a n c l) (hn : n ≤ 140737488355328)
    (h : uintRes l at_ = (v, (nx : Int), 0)) (hv : v ≤ m) (hm : m ≤ 1000000000000) :
    Calls Try.prog 65 #[.pointer (some ⟨g, 0, none⟩), .int .i64 m] w (NumR g (.slice a n c) w v nx false) := by
  have H := Lib.hid h
  clear h
  have hA0 : ∀ w' j, Ext w w' → w'.cell? ⟨g, j, none⟩ = #[.slice a n c, .int .i64 at_, .bool false][j]? := fun _ _ hx => cell_of_row _ _ _ _ _ _ (hx.heap' hR)
  have hR1 := hR.ext (Ext.drew' w)
  have hgd := grown_drews w g
  have hw1 : IntKind.u64.wrap (m : Int) = (m : Int) := by rw [IntKind.wrap_u64]; omega
  have hw2 : IntKind.i64.wrap (v : Int) = (v : Int) := by rw [IntKind.wrap_i64]; omega
  have hd : decide (m < v) = false := decide_eq_false (by omega)
  go_enter Try.func65, Try.ntmps65
  go_wp2
  refine wp_region_e [] (.qs [0, 1, 2, 3, 4, 5, 6, 7, 8, 9, 10, 11, 12, 13, 14, 15] .nil) (by kernel_rfl) (by kernel_rfl) ?_
  iterate 8 ((refine wpY_q rfl rfl _ (fun w' hx' => by go_simp; try rfl) ?_; go_simp))
  ((refine wpY_call rfl rfl _ _ _ (fun w' => by (try go_simp); first | done | rfl | exact ⟨rfl, rfl⟩ | exact ⟨rfl, rfl, rfl⟩) (fun w' hx' => Uint_as a n c l at_ w' (hb.ext hx') hn H.out) ?_; go_simp))
  iterate 7 ((refine wpY_q rfl rfl _ (fun w' hx' => by go_simp; try rfl) ?_; go_simp))
  refine wpY_nil ?_
  clear hA0
  generalize w.drew = w1 at hR1 hgd ⊢
  have hc1 : ∀ j, w1.cell? ⟨g, j, none⟩ = #[.slice a n c, .int .i64 at_, .bool false][j]? := fun j => cell_of_row _ _ _ _ _ _ hR1
  have hg1 := fun j => frozen_none hR1 j
  go_wp2
  go_ret
  exact ⟨rfl, (hR1.set2 (x := false)).set1, grown_trans' (grown_trans' hgd (grown_setCell' _ _ _ _)) (grown_setCell' _ _ _ _)⟩
set_option maxRecDepth 100000 in
set_option maxHeartbeats 2000000 in
theorem number_err (g : Nat) (a : Option Addr) (n c : Nat) (at_ m : Nat) (er : Int) (l : List UInt8) (w : World) (hR : Dr w g (.slice a n c) at_ false) (hb : Bytes w a n c l) (hn : n ≤ 140737488355328)
    (h : uintRes l at_ = (0, 0, er)) (he : er ≠ 0) :
    Calls Try.prog 65 #[.pointer (some ⟨g, 0, none⟩), .int .i64 m] w (NumR g (.slice a n c) w 0 at_ true) := by
  have H := Lib.hid h
  obtain ⟨q1, q2⟩ := neI he
  clear h he
  have hA0 : ∀ w' j, Ext w w' → w'.cell? ⟨g, j, none⟩ = #[.slice a n c, .int .i64 at_, .bool false][j]? := fun _ _ hx => cell_of_row _ _ _ _ _ _ (hx.heap' hR)
  have hR1 := hR.ext (Ext.drew' w)
  have hgd := grown_drews w g
  go_enter Try.func65, Try.ntmps65
  go_wp2
  refine wp_region_e [] (.qs [0, 1, 2, 3, 4, 5, 6, 7, 8, 9, 10, 11, 12, 13, 14, 15] .nil) (by kernel_rfl) (by kernel_rfl) ?_
  iterate 8 ((refine wpY_q rfl rfl _ (fun w' hx' => by go_simp; try rfl) ?_; go_simp))
  ((refine wpY_call rfl rfl _ _ _ (fun w' => by (try go_simp); first | done | rfl | exact ⟨rfl, rfl⟩ | exact ⟨rfl, rfl, rfl⟩) (fun w' hx' => Uint_as a n c l at_ w' (hb.ext hx') hn H.out) ?_; go_simp))
  iterate 7 ((refine wpY_q rfl rfl _ (fun w' hx' => by go_simp; try rfl) ?_; go_simp))
  refine wpY_nil ?_
  clear hA0
  generalize w.drew = w1 at hR1 hgd ⊢
  have hc1 : ∀ j, w1.cell? ⟨g, j, none⟩ = #[.slice a n c, .int .i64 at_, .bool false][j]? := fun j => cell_of_row _ _ _ _ _ _ hR1
  have hg1 := fun j => frozen_none hR1 j
  go_wp2
  go_ret
  exact ⟨rfl, hR1.set2, grown_trans' hgd (grown_setCell' _ _ _ _)⟩
set_option maxRecDepth 100000 in
set_option maxHeartbeats 2000000 in
theorem number_big (g : Nat) (a : Option Addr) (n c : Nat) (at_ v m : Nat) (nx : Int) (l : List UInt8) (w : World) (hR : Dr w g (.slice a n c) at_ false) (hb : Bytes w a n c l) (hn : n ≤ 140737488355328)
    (h : uintRes l at_ = (v, nx, 0)) (hv : m < v) (hm : m ≤ 1000000000000) :
    Calls Try.prog 65 #[.pointer (some ⟨g, 0, none⟩), .int .i64 m] w (NumR g (.slice a n c) w 0 at_ true) := by
  have H := Lib.hid h
  clear h
  have hA0 : ∀ w' j, Ext w w' → w'.cell? ⟨g, j, none⟩ = #[.slice a n c, .int .i64 at_, .bool false][j]? := fun _ _ hx => cell_of_row _ _ _ _ _ _ (hx.heap' hR)
  have hR1 := hR.ext (Ext.drew' w)
  have hgd := grown_drews w g
  have hw1 : IntKind.u64.wrap (m : Int) = (m : Int) := by rw [IntKind.wrap_u64]; omega
  have hd : decide (m < v) = true := decide_eq_true hv
  go_enter Try.func65, Try.ntmps65
  go_wp2
  refine wp_region_e [] (.qs [0, 1, 2, 3, 4, 5, 6, 7, 8, 9, 10, 11, 12, 13, 14, 15] .nil) (by kernel_rfl) (by kernel_rfl) ?_
  iterate 8 ((refine wpY_q rfl rfl _ (fun w' hx' => by go_simp; try rfl) ?_; go_simp))
  ((refine wpY_call rfl rfl _ _ _ (fun w' => by (try go_simp); first | done | rfl | exact ⟨rfl, rfl⟩ | exact ⟨rfl, rfl, rfl⟩) (fun w' hx' => Uint_as a n c l at_ w' (hb.ext hx') hn H.out) ?_; go_simp))
  iterate 7 ((refine wpY_q rfl rfl _ (fun w' hx' => by go_simp; try rfl) ?_; go_simp))
  refine wpY_nil ?_
  clear hA0
  generalize w.drew = w1 at hR1 hgd ⊢
  have hc1 : ∀ j, w1.cell? ⟨g, j, none⟩ = #[.slice a n c, .int .i64 at_, .bool false][j]? := fun j => cell_of_row _ _ _ _ _ _ hR1
  have hg1 := fun j => frozen_none hR1 j
  go_wp2
  go_ret
  exact ⟨rfl, hR1.set2, grown_trans' hgd (grown_setCell' _ _ _ _)⟩

/-- number, by what it reads. -/
def numV (r : Option (Nat × Nat)) (at_ : Nat) : Int × Int × Bool := match r with
  | none => (0, at_, true)
  | some (v, j) => (v, ((at_ + j : Nat) : Int), false)
theorem number_any (g : Nat) (a : Option Addr) (n c : Nat) (at_ m : Nat) (l : List UInt8) (w : World) (hR : Dr w g (.slice a n c) at_ false) (hb : Bytes w a n c l) (hn : n ≤ 140737488355328) (ha : at_ ≤ l.length) (hm : m ≤ 1000000000000)
    {v at2 : Int} {fl : Bool} (hr : numV (numF m (l.drop at_)) at_ = (v, at2, fl)) :
    Calls Try.prog 65 #[.pointer (some ⟨g, 0, none⟩), .int .i64 m] w (NumR g (.slice a n c) w v at2 fl) := by
  rcases uintRes_cases_in l at_ ha with ⟨u, j, h1, h2, h3, h4, h5⟩ | h1 | h1
  · by_cases hv : u ≤ m
    · rw [numF_mk h5 hv] at hr
      cases hr
      exact number_ok g a n c at_ (at_ + j) u m l w hR hb hn (by rw [h1]; rfl) hv hm
    · have h6 : numF m (l.drop at_) = none := by unfold numF; rw [h5, if_pos (.inr (by omega))]
      rw [h6] at hr
      cases hr
      exact number_big g a n c at_ u m _ l w hR hb hn h1 (by omega) hm
  all_goals
    have h6 : numF m (l.drop at_) = none := by
      rw [uintRes_in ha] at h1
      unfold numF
      rw [if_pos]
      left
      intro h0
      rw [if_pos h0] at h1
      simp at h1
    rw [h6] at hr
    cases hr
    exact number_err g a n c at_ m _ l w hR hb hn h1 (by decide)
end Go.Proofs.Ytkhjeeaojlaagaa
