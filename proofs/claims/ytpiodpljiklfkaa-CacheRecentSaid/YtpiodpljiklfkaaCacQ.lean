/-
  Valid IDs, on both sides.
-/
import Derived.Test.YtpiodpljiklfkaaFp
namespace Go.Proofs.Ytpiodpljiklfkaa
open Go.RowKit

set_option maxRecDepth 100000 in
set_option maxHeartbeats 2000000 in
theorem Valid_ok (s : Nat) (z : Int) (w : World) (hs : s < 2305843009213693951) (hz : 1 ≤ z) (hz2 : z ≤ 1048576) :
    Calls Try.prog 62 #[.agg #[.int .u64 s, .int .i64 z]] w (NewNone (.bool true) w) := by
  have hx1 := Ext.alloc' w (.cells #[.int .u64 s, .int .i64 z] 45)
  have hc := fun j => cell_of_row _ w.heap.size j _ _ _ (heap_alloc_new w (.cells #[.int .u64 s, .int .i64 z] 45))
  have h0 := hc 0
  have h1 := hc 1
  have hd : decide ((s : Int) < 2305843009213693951) = true := decide_eq_true (by omega)
  have hd2 : decide (z ≥ 0) = true := decide_eq_true (by omega)
  have hd3 : decide (z ≤ 1048576) = true := decide_eq_true (by omega)
  have hd4 : decide (z > 0) = true := decide_eq_true (by omega)
  have hd5 : decide ((0 : Int) ≤ z) = true := decide_eq_true (by omega)
  have hd6 : decide ((0 : Int) < z) = true := decide_eq_true (by omega)
  have HX := Lib.hid hx1
  clear hc hs hz hz2 hx1
  go_enter Try.func62, Try.ntmps62
  go_wp2
  go_ret
  exact ⟨rfl, HX.out⟩

set_option maxRecDepth 100000 in
set_option maxHeartbeats 2000000 in
theorem refValid_ok (s : Nat) (z : Int) (w : World) (hs : s < 2305843009213693951) (hz : 1 ≤ z) (hz2 : z ≤ 1048576) :
    Calls Try.prog 68 #[.agg #[.int .u64 s, .int .i64 z]] w (NewNone (.bool true) w) := by
  have hx1 := Ext.alloc' w (.cells #[.int .u64 s, .int .i64 z] 45)
  have hc := fun j => cell_of_row _ w.heap.size j _ _ _ (heap_alloc_new w (.cells #[.int .u64 s, .int .i64 z] 45))
  have h0 := hc 0
  have h1 := hc 1
  have hd : decide ((s : Int) < 2305843009213693951) = true := decide_eq_true (by omega)
  have hd2 : decide (z ≥ 0) = true := decide_eq_true (by omega)
  have hd3 : decide (z ≤ 1048576) = true := decide_eq_true (by omega)
  have hd4 : decide (z > 0) = true := decide_eq_true (by omega)
  have hd5 : decide ((0 : Int) ≤ z) = true := decide_eq_true (by omega)
  have hd6 : decide ((0 : Int) < z) = true := decide_eq_true (by omega)
  have HX := Lib.hid hx1
  clear hc hs hz hz2 hx1
  go_enter Try.func68, Try.ntmps68
  go_wp2
  go_ret
  exact ⟨rfl, HX.out⟩
end Go.Proofs.Ytpiodpljiklfkaa
