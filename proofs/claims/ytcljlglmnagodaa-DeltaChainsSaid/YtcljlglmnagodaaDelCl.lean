/-
  The law DeltaComposes.
-/
import Derived.Test.YtcljlglmnagodaaDelCr
import Derived.Test.YtcljlglmnagodaaDelX
import Derived.Test.YtcljlglmnagodaaDelS
import Derived.Deep.CutRange
namespace Go.Proofs.Ytcljlglmnagodaa
open Go.RowKit

theorem comp_len {base : Int} {A B D : List Dp} {er : Int} (h : compRes base A B = (D, er)) : D.length ≤ 4096 := by
  unfold compRes at h
  split at h
  · cases h; exact Nat.zero_le _
  · split at h
    · cases h; exact Nat.zero_le _
    · split at h
      · cases h; exact Nat.zero_le _
      · cases h; omega
theorem ok_right {N : Nat} {y : Od} (h : OpOk N y) : y.d.copies = true ∨ y.d.literal = true := h.1.imp (fun h => h.1) id
theorem few_size {N : Nat} {L : List Od} {n : Int} (h : ckRes N (L.map Od.d) = (n, 0)) (hl : ∀ y ∈ L, y.l.length = y.n) (hf : ∀ y ∈ L, y.n ≤ 4) : (∀ y ∈ L, y.d.copies = true ∨ y.d.literal = true) ∧ sizeD (L.map Od.d) ≤ L.length * (N + 4) := by
  have hok := (ckRes_ok h).1
  have hok' : ∀ y ∈ L, OpOk N y := fun y hy => by
    have h1 := hok y.d (List.mem_map_of_mem hy)
    refine ⟨h1, hf y hy, ?_⟩
    rcases h1 with ⟨h2, h3, h4⟩ | h2
    · have hz : 1 ≤ y.d.z := by simp only [Dp.copies, Bool.and_eq_true, decide_eq_true_eq] at h2; exact h2.1
      have e1 : y.d.z = y.z := rfl
      have e2 : y.d.f = y.f := rfl
      omega
    · simp only [Dp.literal, Bool.and_eq_true, decide_eq_true_eq] at h2
      have e1 : y.z = 0 := h2.1.1
      have e2 : y.f = 0 := h2.1.2
      omega
  exact ⟨fun y hy => ok_right (hok' y hy), ok_size L hok' hl⟩
theorem tape_other {w w' : World} {g g2 k : Nat} (h : Tape w g k) (hg : w.grownBy w' (some g2)) (h2 : g < g2) : Tape w' g k :=
  h.below ((Below.refl _ _).grown hg (by have := h.lt; omega) (fun k hk => by cases hk; omega))

set_option maxRecDepth 100000 in
set_option maxHeartbeats 8000000 in
theorem DeltaComposes_walk (a1 : Option Addr) (n1 c1 : Nat) (L1 : List Int) (w : World)
    (hl : Row w a1 n1 c1 1 (L1.map (Value.int .i64))) (hli : ∀ x ∈ L1, -9223372036854775808 ≤ x ∧ x ≤ 9223372036854775807) (ha1 : ∀ p, a1 = some p → 0 < n1 → p.block < w.heap.size) :
    Calls Try.prog 10 #[.slice a1 n1 c1] w (LawPost w) := by
  have ht : Tape (w.alloc (.cells #[.slice a1 n1 c1, .int .i64 0] 25)) w.heap.size 0 :=
    ⟨a1, n1, c1, L1, heap_alloc_new w _, hl.ext (Ext.alloc' _ _), ha1, hli⟩
  have hx1 : Ext w (w.alloc (.cells #[.slice a1 n1 c1, .int .i64 0] 25)) := Ext.alloc' _ _
  have HT := Lib.hid ht
  clear ht
  go_enter Try.func10, Try.ntmps10
  go_upto_region 4 with (first
    | (go_at_call 25; (with_reducible refine (Next_any w.heap.size 0 20 _ HT.out (by omega) (by omega)).mono ?_); rintro e w2 ⟨N, rfl, hN, ht2, hg2⟩; have hx2 := hx1.rd hg2 (Nat.le_refl _); have hN' : N ≤ 19 := (by unfold Below1 at hN; omega); clear hN)
    | (go_at_call 31; (with_reducible refine (faulty_any w.heap.size 1 N _ ht2 (by omega) (by omega)).mono ?_); rintro e w3 ⟨a3, m3, c3, k3, L3, rfl, hO3, hm3, hf3, ht3, hk3, hg3⟩; have hx3 := hx2.rd hg3 (Nat.le_refl _))
    | fail)
  have hE4 := Ext.alloc' w3 (.cells #[.slice a1 n1 c1, .int .i64 1] 25)
  have hb4 := heap_alloc_new w3 (.cells #[.slice a1 n1 c1, .int .i64 1] 25)
  have ht4 : Tape (w3.alloc (.cells #[.slice a1 n1 c1, .int .i64 1] 25)) w3.heap.size 1 :=
    ⟨a1, n1, c1, L1, hb4, hl.ext (hx3.trans' hE4), fun p hp hm => by have := ha1 p hp hm; have := hx3.size; omega, hli⟩
  have ht3' := ht3.ext hE4
  have hO4 := hO3.ext hE4
  have hgl2 : w.heap.size < w2.heap.size := ht2.lt
  have hgl3 : w.heap.size < w3.heap.size := ht3.lt
  have hx4 := hx3.trans' hE4
  clear hg2 hg3 ht2 ht3 hO3 hE4
  go_upto_region 5 with (first
    | (go_at_call 39; (with_reducible refine (made_any w3.heap.size 1 N _ ht4 (by omega) (by omega)).mono ?_); rintro e w5 ⟨a5, m5, c5, k5, L5, rfl, hO5, hm5, hok5, ht5, hk5, hg5⟩; have hx5 := hx4.rd hg5 hx3.size; have hS5 := ok_size L5 hok5 hO5.lens; have hS5' : sizeD (L5.map Od.d) ≤ 161 := (by have h7 : L5.length ≤ 7 := (by rw [hO5.len]; exact hm5); have := Nat.mul_le_mul h7 (show N + 4 ≤ 23 by omega); omega))
    | (go_at_call 42; (with_reducible refine (Size_any a5 m5 c5 L5 _ hO5.ops (by omega) (fun y hy => ok_right (hok5 y hy)) rfl (by omega)).mono ?_); rintro e w6 ⟨rfl, hx6⟩; have ht6 := (tape_other ht3' hg5 hgl3).ext hx6; have hO6 := (hO4.keptO hg5 (.inr ⟨_, _, hb4, (fun e => own_apart hO4.own hb4 (by decide) e.symm), by decide⟩)).ext hx6; have hxw6 := hx5.trans' hx6; clear hO5 hok5 hS5 hx6 hg5 ht5)
    | (go_at_call 31; (with_reducible refine (faulty_any w.heap.size k3 (sizeD (L5.map Od.d)) _ ht6 (by omega) (by omega)).mono ?_); rintro e w7 ⟨a7, m7, c7, k7, L7, rfl, hO7, hm7, hf7, ht7, hk7, hg7⟩; have hxw7 := hxw6.rd hg7 (Nat.le_refl _); have hO37 := hO6.kept hg7 hgl2; clear hO6 hO4 ht6 hg7 hb4 ht4 ht3' hf7)
    | fail)
  obtain ⟨n0, e0, hck⟩ : ∃ n0 e0, ckRes N (L3.map Od.d) = (n0, e0) := ⟨_, _, rfl⟩
  have HCK := Lib.hid hck
  clear hck
  go_upto_if 36 with (first
    | (go_at_call 33; (with_reducible refine (refCheck_any N a3 m3 c3 L3 _ hO37.ops (by omega) HCK.out).mono ?_); rintro e w8 ⟨rfl, hx8⟩)
    | fail)
  go_cut [6] from 13 (fun s6 w' => ∃ (a : Option Addr) (m c : Nat) (L : List Od), s6 = .slice a m c ∧ Ops w' a m c L ∧ m ≤ 7 ∧ Ops w' a3 m3 c3 L3 ∧ Ext w w')
  case first =>
    have hO8 := hO37.ext hx8
    have hx08 := hxw7.trans' hx8
    have ht8 := ht7.ext hx8
    by_cases he : e0 = 0
    rotate_left
    · obtain ⟨q1, q2⟩ := neI he
      clear he
      go_wp2
      go_meet
      exact ⟨a7, m7, c7, L7, rfl, hO7.ops.ext hx8, hm7, hO8.ops, hx08⟩
    · subst he
      obtain ⟨hr3, hs3⟩ := few_size HCK.out hO8.lens hf3
      have hs3' : sizeD (L3.map Od.d) ≤ 161 := by
        have h7 : L3.length ≤ 7 := by rw [hO8.len]; exact hm3
        have := Nat.mul_le_mul h7 (show N + 4 ≤ 23 by omega)
        omega
      have hgl7 : w.heap.size < w8.heap.size := ht8.lt
      go_wp2_with (first
        | (go_at_call 42; (with_reducible refine (Size_any a3 m3 c3 L3 _ hO8.ops (by omega) hr3 rfl (by omega)).mono ?_); rintro e w9 ⟨rfl, hx9⟩; have ht9 := ht8.ext hx9; have hO9 := hO8.ext hx9; have hx09 := hx08.trans' hx9; clear hr3 hs3)
        | (go_at_call 31; (with_reducible refine (faulty_any w.heap.size k7 (sizeD (L3.map Od.d)) _ ht9 (by omega) (by omega)).mono ?_); rintro e w10 ⟨a10, m10, c10, k10, L10, rfl, hO10, hm10, hf10, ht10, hk10, hg10⟩; have hx10 := hx09.rd hg10 (Nat.le_refl _); have hO310 := hO9.kept hg10 hgl2)
        | fail)
      go_meet
      exact ⟨a10, m10, c10, L10, rfl, hO10.ops, hm10, hO310.ops, hx10⟩
  case rest =>
    obtain ⟨a, m, c, L, rfl, hL, hm, hL3, hx9⟩ := hcut
    rename World => w9
    obtain ⟨D, er, hr⟩ : ∃ D er, compRes N (L3.map Od.d) (L.map Od.d) = (D, er) := ⟨_, _, rfl⟩
    have hD4 := comp_len hr
    have HR := Lib.hid hr
    have HD4 := Lib.hid hD4
    clear hr hD4
    go_wp2_with (first
      | (go_at_call 43; (with_reducible refine (Compose_any N a3 m3 c3 L3 a m c L _ hL3 hL (by omega) (by omega) HR.out).mono ?_); rintro e w10 ⟨a10, m10, c10, L10, rfl, hL10, hD10, hx10⟩)
      | (go_at_call 44; (with_reducible refine (refCompose_any N a3 m3 c3 L3 a m c L _ (hL3.ext hx10) (hL.ext hx10) (by omega) (by omega) HR.out).mono ?_); rintro e w11 ⟨a11, m11, c11, L11, rfl, hL11, hD11, hx11⟩; have HE := Lib.hid (hD10.trans hD11.symm); have hs10 : m10 ≤ 4096 := (by have h := HD4.out; rw [← hD10, List.length_map, hL10.1] at h; exact h); clear hD10 hD11)
      | (go_at_call 28; (with_reducible refine (known_any _).mono ?_); rintro e w12 ⟨rfl, hx12⟩; have hS := Same_any a10 m10 c10 a11 m11 c11 L10 L11 w12 ((hL10.ext hx11).ext hx12) (hL11.ext hx12) HE.out (by omega))
      | (go_at_call 29; (with_reducible refine hS.mono ?_); rintro e w13 ⟨rfl, hx13⟩; clear hS)
      | fail)
    go_ret
    exact ⟨rfl, (((hx9.trans' hx10).trans' hx11).trans' hx12).trans' hx13⟩
end Go.Proofs.Ytcljlglmnagodaa
