/-
  Caches: New.
-/
import Derived.Test.YtpiodpljiklfkaaCacC
import Derived.Carry
namespace Go.Proofs.Ytpiodpljiklfkaa
open Go.RowKit Go.WideMaps

theorem mapOf_nil (N : Nat → Nd) (k : KI) : mapOf N [] k = none := rfl
/-- An empty cache. -/
def NewC (w : World) (room : Nat) (en : Ending) (w' : World) : Prop := ∃ c F, en = .returned (.pointer (some ⟨c, 0, none⟩)) ∧ Cac w' w.heap.size c room [] F ∧ Ext w w'

set_option maxRecDepth 100000 in
set_option maxHeartbeats 2000000 in
theorem empty38_any (room : Nat) (w : World) (hr : room ≤ 1048576) :
    Calls Try.prog 37 #[.int .i64 room] w (NewC w room) := by
  have hmm := @run_makeMap Try.prog
  go_enter Try.func37, Try.ntmps37
  have h0 := heap_alloc_new w (.cells #[.pointer none, .pointer none, .int .u64 0, .int .i64 0, .slice none 0 0, .int .i64 0] 81)
  have hx0 := Ext.alloc' w (.cells #[.pointer none, .pointer none, .int .u64 0, .int .i64 0, .slice none 0 0, .int .i64 0] 81)
  have H0 := Lib.hid h0
  have HX0 := Lib.hid hx0
  clear h0 hx0
  go_wp2_with (first
    | ((with_reducible refine atStore 11 ?_); refine Stop.of ?_)
    | fail)
  generalize w.alloc (.cells #[.pointer none, .pointer none, .int .u64 0, .int .i64 0, .slice none 0 0, .int .i64 0] 81) = w1 at H0 HX0 ⊢
  obtain ⟨e, he⟩ : ∃ e, e = w.heap.size := ⟨_, rfl⟩
  have HE := Lib.hid he
  rw [← he] at H0 ⊢
  clear he
  have h1 : RawAt w1 e (.pointer none) (.pointer none) ⟨e, e, 0, 0, none, 0, 0, [], 0⟩ := H0.out
  have h2 := h1.set0 (v := .pointer (some ⟨e, 0, none⟩))
  have h3 := h2.set1 (v := .pointer (some ⟨e, 0, none⟩))
  have hc : Chg [e] w1 ((w1.setCell ⟨e, 0, none⟩ (.pointer (some ⟨e, 0, none⟩))).setCell ⟨e, 1, none⟩ (.pointer (some ⟨e, 0, none⟩))) := (chg_set _ (by simp)).trans' (chg_set _ (by simp))
  have HT1 := Lib.hid (h1.there (j := 0) (by decide))
  have HT2 := Lib.hid (h2.there (j := 1) (by decide))
  generalize hw2 : (w1.setCell ⟨e, 0, none⟩ (.pointer (some ⟨e, 0, none⟩))).setCell ⟨e, 1, none⟩ (.pointer (some ⟨e, 0, none⟩)) = w2 at h3 hc
  have HW2 := Lib.hid hw2
  have H3 := Lib.hid h3
  have hx2 : Ext w w2 := HX0.out.grown (row := some e) ⟨hc.os, hc.tape, hc.output, hc.size, fun k hk hn => hc.block k hk (by simpa using fun h => hn (by rw [h]))⟩ HX0.out.size (fun k hk => by cases hk; rw [HE.out]; exact Nat.le_refl _)
  have HX2 := Lib.hid hx2
  clear h1 h2 h3 hc hw2 hx2
  refine Stop.out ?_
  go_wp2_with (first
    | ((with_reducible refine atStore 11 ?_); refine wpList_of_wp rfl (owp_st1 (o := ⟨none, _, _, _, _, _⟩) 77 _ _ rfl e 0 (.pointer (some ⟨e, 0, none⟩)) rfl rfl rfl HT1.out (by kernel_rfl) rfl ?_))
    | ((with_reducible refine atStore 13 ?_); refine wpList_of_wp rfl (owp_st1 (o := ⟨none, _, _, _, _, _⟩) 77 _ _ rfl e 1 (.pointer (some ⟨e, 0, none⟩)) rfl rfl rfl HT2.out (by kernel_rfl) rfl ?_); rw [HW2.out])
    | fail)
  go_ret
  obtain ⟨w3, hw3⟩ : ∃ w3, w3 = w2.alloc (.map #[] 0) := ⟨_, rfl⟩
  have hs3 : w3.heap.size = w2.heap.size + 1 := by rw [hw3]; exact World.size_alloc _ _
  have hx3 : Ext w2 w3 := by rw [hw3]; exact Ext.alloc' w2 _
  have hm3 : MapF kvI w3 w2.heap.size (fun _ => none) := by rw [hw3]; exact MapF.new w2
  have hx4 := Ext.alloc' w3 (.cells #[.int .i64 room, .int .i64 0, .map (some w2.heap.size), .pointer (some ⟨e, 0, none⟩)] 79)
  have hb4 := heap_alloc_new w3 (.cells #[.int .i64 room, .int .i64 0, .map (some w2.heap.size), .pointer (some ⟨e, 0, none⟩)] 79)
  rw [← hw3, ← hs3]
  have hz := HX2.out.size
  refine ⟨w3.heap.size, _, rfl, ⟨w2.heap.size, e, fun _ => ⟨e, e, 0, 0, none, 0, 0, [], 0⟩, [], ⟨hb4, fun k hk => ?_, Ring.nil rfl rfl, by simp, hm3.ext hx4, fun k hk => by (cases hk), fun k hk => ?_, OkE.nil room, hr⟩, rfl, rfl⟩, (HX2.out.trans' hx3).trans' hx4⟩
  · obtain rfl : k = e := by simpa using hk
    exact (hx3.trans' hx4).heap' H3.out
  · simp only [List.mem_cons, List.not_mem_nil, or_false] at hk
    rcases hk with h | h | h
    · rw [h]; omega
    · rw [h]; exact hz
    · rw [h, HE.out]; exact Nat.le_refl _

/-- New: a cache, or none and the error. -/
def NewCO (w : World) (room : Int) (en : Ending) (w' : World) : Prop :=
  (room < 1 ∨ 1048576 < room) ∧ en = .returned (.tuple #[.pointer none, .int .i64 380]) ∧ Ext w w' ∨
  ∃ (r c : Nat) (F : List Nat), room = (r : Int) ∧ 1 ≤ r ∧ r ≤ 1048576 ∧ en = .returned (.tuple #[.pointer (some ⟨c, 0, none⟩), .int .i64 0]) ∧ Cac w' w.heap.size c r [] F ∧ Ext w w'

set_option maxRecDepth 100000 in
set_option maxHeartbeats 1000000 in
theorem New38_any (room : Int) (w : World) :
    Calls Try.prog 12 #[.int .i64 room] w (NewCO w room) := by
  by_cases h1 : room < 1
  · have hd : decide (room < 1) = true := decide_eq_true h1
    have HF := Lib.hid (show NewCO w room (.returned (.tuple #[.pointer none, .int .i64 380])) w from .inl ⟨.inl h1, rfl, Below.refl _ _⟩)
    clear h1
    go_enter Try.func12, Try.ntmps12
    go_wp2
    go_ret2
    exact HF.out
  have hd1 : decide (room < 1) = false := decide_eq_false h1
  by_cases h2 : 1048576 < room
  · have hd : decide (1048576 < room) = true := decide_eq_true h2
    have HF := Lib.hid (show NewCO w room (.returned (.tuple #[.pointer none, .int .i64 380])) w from .inl ⟨.inr h2, rfl, Below.refl _ _⟩)
    clear h1 h2
    go_enter Try.func12, Try.ntmps12
    go_wp2
    go_ret2
    exact HF.out
  obtain ⟨r, rfl⟩ := Int.eq_ofNat_of_zero_le (show 0 ≤ room by omega)
  have hd2 : decide ((1048576 : Int) < r) = false := decide_eq_false h2
  have hr : r ≤ 1048576 := by omega
  have hr1 : 1 ≤ r := by omega
  clear h1 h2
  go_enter Try.func12, Try.ntmps12
  go_wp2_with (first
    | (go_at_call 37; (with_reducible refine (empty38_any r _ hr).mono ?_); rintro en w1 ⟨c, F, rfl, hC, hx⟩)
    | fail)
  go_ret2
  exact .inr ⟨r, c, F, rfl, hr1, hr, rfl, hC, hx⟩
end Go.Proofs.Ytpiodpljiklfkaa
