/-
  The reader of encoded deltas: op.
-/
import Derived.Test.YtkhjeeaojlaagaaDelDa
import Derived.Test.YtkhjeeaojlaagaaDelH
namespace Go.Proofs.Ytkhjeeaojlaagaa
open Go.RowKit

/-- What op leaves, if it fails. -/
def OpNo (g : Nat) (V : Value) (w : World) (e : Ending) (w' : World) : Prop :=
  ∃ (f z at2 : Int), e = .returned (.agg #[.int .i64 f, .int .i64 z, .slice none 0 0]) ∧ Dr w' g V at2 true ∧ w.grownBy w' (some g)
def OpYes (g : Nat) (V : Value) (at2 : Nat) (o : Dp) (w : World) (e : Ending) (w' : World) : Prop :=
  ∃ k : Od, e = .returned (.agg #[.int .i64 k.f, .int .i64 k.z, .slice k.a k.n k.c]) ∧ k.d = o ∧ w'.ownsRow w.heap.size 5 1 (.slice k.a k.n k.c) k.n (k.l.map u8) ∧ k.n ≤ 1048576 ∧ i64B k.f ∧ i64B k.z ∧ Dr w' g V at2 false ∧ w.grownBy w' (some g)
def OpR (g : Nat) (V : Value) (at_ : Nat) (w : World) (r : Option (Dp × Nat)) (e : Ending) (w' : World) : Prop := match r with
  | none => OpNo g V w e w'
  | some (o, j) => OpYes g V (at_ + j) o w e w'

theorem Dr.cells {w : World} {g : Nat} {V : Value} {at_ : Int} {fl : Bool} (h : Dr w g V at_ fl) : ∀ w' j, Ext w w' → w'.cell? ⟨g, j, none⟩ = #[V, .int .i64 at_, .bool fl][j]? := fun _ _ hx => cell_of_row _ _ _ _ _ _ (hx.heap' h)
theorem Dr.kept {w w' : World} {g b : Nat} {V : Value} {at_ : Int} {fl : Bool} (h : Dr w g V at_ fl) (hg : w.grownBy w' (some b)) (hb : b ≠ g) : Dr w' g V at_ fl := (hg.block g h.lt (fun e => hb (by cases e; rfl))).trans h
theorem there_box {w : World} {g i m : Nat} {cs : Array Value} {t : TypeId} (h : w.heap[g]? = some (.cells cs t (0, 0))) (hi : i + m ≤ cs.size) : w.there g i m := fun j hj => by
  refine ⟨?_, frozen_none h _⟩
  rw [cell_of_row w g _ _ _ _ h, Array.getElem?_eq_getElem (by omega)]
  rfl
theorem box_set3 {w : World} {g : Nat} {x y z x' y' z' : Value} {t : TypeId} (h : w.heap[g]? = some (.cells #[x, y, z] t (0, 0))) : (w.setCells g 0 [x', y', z']).heap[g]? = some (.cells #[x', y', z'] t (0, 0)) := by
  simp [World.setCells, World.setCell, Array.getElem?_modify, h]
theorem heap_kept {w w' : World} {g k : Nat} {o : Obj} (h : w.heap[k]? = some o) (hg : w.grownBy w' (some g)) (hk : k ≠ g) : w'.heap[k]? = some o :=
  (hg.block k (Array.getElem?_eq_some_iff.1 h).1 (fun e => hk (by cases e; rfl))).trans h
theorem grown_new {w w' : World} {g b : Nat} (h : w.grownBy w' (some b)) (hb : w.heap.size ≤ b) : w.grownBy w' (some g) :=
  ⟨h.os, h.tape, h.output, h.size, fun k hk _ => h.block k hk (fun e => by cases e; omega)⟩
/-- A store into a block that is new to w. -/
theorem grown_store {w w' w'' : World} {g b : Nat} (h : w.grownBy w' (some g)) (h2 : w'.grownBy w'' (some b)) (hb : w.heap.size ≤ b) : w.grownBy w'' (some g) :=
  ⟨h2.os.trans h.os, h2.tape.trans h.tape, h2.output.trans h.output, Nat.le_trans h.size h2.size, fun k hk hg => (h2.block k (by have := h.size; omega) (fun e => by cases e; omega)).trans (h.block k hk hg)⟩

set_option maxRecDepth 100000 in
set_option maxHeartbeats 8000000 in
theorem op_any (g : Nat) (a : Option Addr) (n c : Nat) (at_ : Nat) (l : List UInt8) (w : World) (hR : Dr w g (.slice a n c) at_ false) (hb : Bytes w a n c l) (hn : n ≤ 140737488355328) (ha : at_ ≤ l.length) (hne : ∀ p, a = some p → p.block ≠ g) :
    Calls Try.prog 66 #[.pointer (some ⟨g, 0, none⟩)] w (OpR g (.slice a n c) at_ w (opF (l.drop at_))) := by
  have hgl := hR.lt
  have hgb : w.heap.size ≠ g := by omega
  have hx1 := Ext.alloc' w (.cells #[.int .i64 0, .int .i64 0, .slice none 0 0] 83)
  have hb1 := heap_alloc_new w (.cells #[.int .i64 0, .int .i64 0, .slice none 0 0] 83)
  obtain ⟨w1, hw1⟩ : ∃ w1, w1 = w.alloc (.cells #[.int .i64 0, .int .i64 0, .slice none 0 0] 83) := ⟨_, rfl⟩
  rw [← hw1] at hx1 hb1
  have HW1 := Lib.hid hw1
  have hR1 := hR.ext hx1
  have hB1 := hb.ext hx1
  have hl := hb.len
  have hG1 : w.grownBy w1 (some g) := ⟨hx1.os, hx1.tape, hx1.output, hx1.size, fun k hk _ => hx1.block k hk⟩
  clear hw1
  obtain ⟨r, hr⟩ : ∃ r, r = opF (l.drop at_) := ⟨_, rfl⟩
  rw [← hr]
  unfold opF at hr
  -- the first number
  cases hn1 : numF 2097153 (l.drop at_) with
  | none =>
    rw [hn1] at hr
    subst hr
    have hnu : Calls Try.prog 65 #[.pointer (some ⟨g, 0, none⟩), .int .i64 2097153] w1 (NumR g (.slice a n c) w1 0 at_ true) := number_any g a n c at_ 2097153 l w1 hR1 hB1 hn ha (by decide) (by rw [hn1]; rfl)
    have HNU := Lib.hid hnu
    clear hnu hn1 hR1 hB1 hx1
    go_enter Try.func66, Try.ntmps66
    go_upto_region 1 with fail
    rw [← HW1.out]
    go_wp2_with (first
      | (go_at_call 65; (with_reducible refine HNU.out.mono ?_); rintro e w2 ⟨rfl, hR2, hg2⟩)
      | fail)
    have hb2 := heap_kept hb1 hg2 hgb
    have hG2 := grown_trans' hG1 hg2
    have hA2 := hR2.cells
    have hd : decide ((n : Int) - (at_ : Int) < 0) = false := decide_eq_false (by omega)
    have hw1 : IntKind.i64.wrap 0 = 0 := rfl
    have hw2 : IntKind.i64.wrap ((n : Int) - (at_ : Int)) = (n : Int) - (at_ : Int) := by rw [IntKind.wrap_i64]; omega
    refine wp_region_e [] (.qs [0, 1, 2, 3, 4, 5, 6, 7, 8, 9, 10, 11, 12] .nil) (by kernel_rfl) (by kernel_rfl) ?_
    iterate 13 ((refine wpY_q rfl rfl _ (fun w' hx' => by go_simp; try rfl) ?_; go_simp))
    refine wpY_nil ?_
    clear hA2 hd hw1 hw2
    have E3 := Ext.drew' w2
    have hR3 := hR2.ext E3
    have hb3 := E3.heap' hb2
    have hG3 := grown_drew hG2
    generalize w2.drew = w3 at hR3 hb3 hG3 ⊢
    have hc3 := fun j => hR3.cells w3 j (Below.refl _ _)
    go_wp2_with (first
      | ((with_reducible refine atStore 2 ?_); refine wpList_store_mid rfl 83 _ _ rfl w.heap.size 0 #[.int .i64 0, .int .i64 0, .slice none 0 0] rfl rfl (there_box hb3 (by simp)) (by kernel_rfl) (by simp [Value.oneCell']) ?_)
      | fail)
    have hb4 := box_set3 (x' := .int .i64 0) (y' := .int .i64 0) (z' := .slice none 0 0) hb3
    have hg4 := grown_setCells w.heap.size [.int .i64 0, .int .i64 0, .slice none 0 0] 0 w3
    (try simp only [Exit.inBlock, Exit.then]); refine bodyPost_ret (results_cells rfl _ w.heap.size [.int .i64 0, .int .i64 0, .slice none 0 0] _ rfl (fun i v hi => by rw [cell_of_row _ _ i _ _ _ hb4]; simpa using hi) Try.underlying83 rfl (by kernel_rfl)) rfl ?_
    exact ⟨0, 0, at_, rfl, hR3.kept hg4 hgb, grown_store hG3 hg4 (Nat.le_refl _)⟩
  | some p =>
    obtain ⟨k, j⟩ := p
    have hs1 := numF_some hn1
    obtain ⟨-, hk1, hj0, hjl⟩ := hs1
    rw [List.length_drop] at hjl
    rw [hn1] at hr
    simp only at hr
    have hnu : Calls Try.prog 65 #[.pointer (some ⟨g, 0, none⟩), .int .i64 2097153] w1 (NumR g (.slice a n c) w1 k ((at_ + j : Nat) : Int) false) := number_any g a n c at_ 2097153 l w1 hR1 hB1 hn ha (by decide) (by rw [hn1]; rfl)
    have HNU := Lib.hid hnu
    clear hnu hn1 hR1 hB1
    by_cases hodd : k % 2 = 1
    · rw [if_pos hodd] at hr
      obtain ⟨q1, q2⟩ := eqI (x := (k : Int) % 2) (y := 1) (by omega)
      have hB1 := hb.ext hx1
      have hne1 := hne
      rw [List.drop_drop] at hr
      cases hn2 : numF 1048576 (l.drop (at_ + j)) with
      | none =>
        rw [hn2] at hr
        subst hr
        have hnu2 : ∀ w', Dr w' g (.slice a n c) ((at_ + j : Nat) : Int) false → Bytes w' a n c l → Calls Try.prog 65 #[.pointer (some ⟨g, 0, none⟩), .int .i64 1048576] w' (NumR g (.slice a n c) w' 0 ((at_ + j : Nat) : Int) true) := fun w' h1 h2 => number_any g a n c (at_ + j) 1048576 l w' h1 h2 hn (by omega) (by decide) (by rw [hn2]; rfl)
        have HN2 := Lib.hid hnu2
        have HB1 := Lib.hid hB1
        have t1 : True := trivial
        clear hnu2 hn2 hx1 hodd hB1
        go_enter Try.func66, Try.ntmps66
        go_upto_region 1 with fail
        rw [← HW1.out]
        go_wp2_with (first
          | (go_at_call 65; have _t := t1; (with_reducible refine HNU.out.mono ?_); rintro e w2 ⟨rfl, hR2, hg2⟩; clear t1; have hb2 := heap_kept hb1 hg2 hgb; have hG2 := grown_trans' hG1 hg2; have hB2 := HB1.out.apart hg2 hne1)
          | (go_at_call 65; (with_reducible refine (HN2.out _ hR2 hB2).mono ?_); rintro e w3 ⟨rfl, hR3, hg3⟩; have hb3 := heap_kept hb2 hg3 hgb; have hG3 := grown_trans' hG2 hg3)
          | ((with_reducible refine atStore 2 ?_); refine wpList_store_mid rfl 83 _ _ rfl w.heap.size 0 #[.int .i64 0, .int .i64 ((k : Int) / 2), .slice none 0 0] rfl rfl (there_box hb3 (by simp)) (by kernel_rfl) (by simp [Value.oneCell']) ?_)
          | fail)
        have hb4 := box_set3 (x' := .int .i64 0) (y' := .int .i64 ((k : Int) / 2)) (z' := .slice none 0 0) hb3
        have hg4 := grown_setCells w.heap.size [.int .i64 0, .int .i64 ((k : Int) / 2), .slice none 0 0] 0 w3
        (try simp only [Exit.inBlock, Exit.then]); refine bodyPost_ret (results_cells rfl _ w.heap.size [.int .i64 0, .int .i64 ((k : Int) / 2), .slice none 0 0] _ rfl (fun i v hi => by rw [cell_of_row _ _ i _ _ _ hb4]; simpa using hi) Try.underlying83 rfl (by kernel_rfl)) rfl ?_
        exact ⟨0, _, _, rfl, hR3.kept hg4 hgb, grown_store hG3 hg4 (Nat.le_refl _)⟩
      | some p2 =>
        obtain ⟨f, i⟩ := p2
        have hs2 := numF_some hn2
        obtain ⟨-, hf1, hi0, hil⟩ := hs2
        rw [hn2] at hr
        simp only at hr
        subst hr
        have hnu2 : ∀ w', Dr w' g (.slice a n c) ((at_ + j : Nat) : Int) false → Bytes w' a n c l → Calls Try.prog 65 #[.pointer (some ⟨g, 0, none⟩), .int .i64 1048576] w' (NumR g (.slice a n c) w' f ((at_ + j + i : Nat) : Int) false) := fun w' h1 h2 => number_any g a n c (at_ + j) 1048576 l w' h1 h2 hn (by omega) (by decide) (by rw [hn2]; rfl)
        have HN2 := Lib.hid hnu2
        have HB1 := Lib.hid hB1
        have t1 : True := trivial
        clear hnu2 hn2 hx1 hodd hB1
        go_enter Try.func66, Try.ntmps66
        go_upto_region 1 with fail
        rw [← HW1.out]
        go_wp2_with (first
          | (go_at_call 65; have _t := t1; (with_reducible refine HNU.out.mono ?_); rintro e w2 ⟨rfl, hR2, hg2⟩; clear t1; have hb2 := heap_kept hb1 hg2 hgb; have hG2 := grown_trans' hG1 hg2; have hB2 := HB1.out.apart hg2 hne1)
          | (go_at_call 65; (with_reducible refine (HN2.out _ hR2 hB2).mono ?_); rintro e w3 ⟨rfl, hR3, hg3⟩; have hb3 := heap_kept hb2 hg3 hgb; have hG3 := grown_trans' hG2 hg3)
          | ((with_reducible refine atStore 2 ?_); refine wpList_store_mid rfl 83 _ _ rfl w.heap.size 0 #[.int .i64 f, .int .i64 ((k : Int) / 2), .slice none 0 0] rfl rfl (there_box hb3 (by simp)) (by kernel_rfl) (by simp [Value.oneCell']) ?_)
          | fail)
        have hb4 := box_set3 (x' := .int .i64 f) (y' := .int .i64 ((k : Int) / 2)) (z' := .slice none 0 0) hb3
        have hg4 := grown_setCells w.heap.size [.int .i64 f, .int .i64 ((k : Int) / 2), .slice none 0 0] 0 w3
        (try simp only [Exit.inBlock, Exit.then]); refine bodyPost_ret (results_cells rfl _ w.heap.size [.int .i64 f, .int .i64 ((k : Int) / 2), .slice none 0 0] _ rfl (fun i v hi => by rw [cell_of_row _ _ i _ _ _ hb4]; simpa using hi) Try.underlying83 rfl (by kernel_rfl)) rfl ?_
        refine ⟨⟨f, (k : Int) / 2, none, 0, 0, []⟩, rfl, by show Dp.mk _ _ _ = _; rw [show (k : Int) / 2 = ((k / 2 : Nat) : Int) by omega], own_nil _ _ _ _, (Nat.zero_le _ : 0 ≤ 1048576), (i64_of (by omega) (by omega) : i64B (f : Int)), (i64_of (by omega) (by omega) : i64B ((k : Int) / 2)), ?_, grown_store hG3 hg4 (Nat.le_refl _)⟩
        rw [← Nat.add_assoc]
        exact hR3.kept hg4 hgb
    · rw [if_neg hodd] at hr
      obtain ⟨q1, q2⟩ := neI (x := (k : Int) % 2) (y := 1) (by omega)
      rw [List.length_drop] at hr
      have HB1 := Lib.hid (hb.ext hx1)
      clear hx1 hodd
      by_cases hshort : l.length - at_ - j < k / 2
      · rw [if_pos hshort] at hr
        subst hr
        have hd : decide ((n : Int) - ((at_ : Int) + (j : Int)) < (k : Int) / 2) = true := decide_eq_true (by omega)
        go_enter Try.func66, Try.ntmps66
        go_upto_region 1 with fail
        rw [← HW1.out]
        go_wp2_with (first
          | (go_at_call 65; (with_reducible refine HNU.out.mono ?_); rintro e w2 ⟨rfl, hR2, hg2⟩)
          | fail)
        have hb2 := heap_kept hb1 hg2 hgb
        have hG2 := grown_trans' hG1 hg2
        have hA2 := hR2.cells
        have hw1 : IntKind.i64.wrap ((k : Int) / 2) = (k : Int) / 2 := by rw [IntKind.wrap_i64]; omega
        have hw2 : IntKind.i64.wrap ((n : Int) - ((at_ : Int) + (j : Int))) = (n : Int) - ((at_ : Int) + (j : Int)) := by rw [IntKind.wrap_i64]; omega
        refine wp_region_e [] (.qs [0, 1, 2, 3, 4, 5, 6, 7, 8, 9, 10, 11, 12] .nil) (by kernel_rfl) (by kernel_rfl) ?_
        iterate 13 ((refine wpY_q rfl rfl _ (fun w' hx' => by go_simp; try rfl) ?_; go_simp))
        refine wpY_nil ?_
        clear hA2 hd hw1 hw2
        have E3 := Ext.drew' w2
        have hR3 := hR2.ext E3
        have hb3 := E3.heap' hb2
        have hG3 := grown_drew hG2
        generalize w2.drew = w3 at hR3 hb3 hG3 ⊢
        have hc3 := fun j => hR3.cells w3 j (Below.refl _ _)
        have hf3 := frozen_none hR3
        have hR4 : Dr (w3.setCell ⟨g, 2, none⟩ (.bool true)) g (.slice a n c) ((at_ + j : Nat) : Int) true := hR3.set2
        have hg4 := grown_setCell' w3 g 2 (.bool true)
        have hb4 := heap_kept hb3 hg4 hgb
        have hG4 := grown_trans' hG3 hg4
        have hc4 := fun j => hR4.cells (w3.setCell ⟨g, 2, none⟩ (.bool true)) j (Below.refl _ _)
        go_wp2_with (first
          | ((with_reducible refine atStore 2 ?_); refine wpList_store_mid rfl 83 _ _ rfl w.heap.size 0 #[.int .i64 0, .int .i64 0, .slice none 0 0] rfl rfl (there_box hb4 (by simp)) (by kernel_rfl) (by simp [Value.oneCell']) ?_)
          | fail)
        have hb5 := box_set3 (x' := .int .i64 0) (y' := .int .i64 0) (z' := .slice none 0 0) hb4
        have hg5 := grown_setCells w.heap.size [.int .i64 0, .int .i64 0, .slice none 0 0] 0 (w3.setCell ⟨g, 2, none⟩ (.bool true))
        (try simp only [Exit.inBlock, Exit.then]); refine bodyPost_ret (results_cells rfl _ w.heap.size [.int .i64 0, .int .i64 0, .slice none 0 0] _ rfl (fun i v hi => by rw [cell_of_row _ _ i _ _ _ hb5]; simpa using hi) Try.underlying83 rfl (by kernel_rfl)) rfl ?_
        exact ⟨0, 0, _, rfl, hR4.kept hg5 hgb, grown_store hG4 hg5 (Nat.le_refl _)⟩
      · rw [if_neg hshort] at hr
        subst hr
        have hd : decide ((n : Int) - ((at_ : Int) + (j : Int)) < (k : Int) / 2) = false := decide_eq_false (by omega)
        go_enter Try.func66, Try.ntmps66
        go_upto_region 1 with fail
        rw [← HW1.out]
        go_wp2_with (first
          | (go_at_call 65; (with_reducible refine HNU.out.mono ?_); rintro e w2 ⟨rfl, hR2, hg2⟩)
          | fail)
        have hb2 := heap_kept hb1 hg2 hgb
        have hG2 := grown_trans' hG1 hg2
        have hB2 := HB1.out.apart hg2 hne
        have hA2 := hR2.cells
        have hw1 : IntKind.i64.wrap ((k : Int) / 2) = (k : Int) / 2 := by rw [IntKind.wrap_i64]; omega
        have hw2 : IntKind.i64.wrap ((n : Int) - ((at_ : Int) + (j : Int))) = (n : Int) - ((at_ : Int) + (j : Int)) := by rw [IntKind.wrap_i64]; omega
        refine wp_region_e [] (.qs [0, 1, 2, 3, 4, 5, 6, 7, 8, 9, 10, 11, 12] .nil) (by kernel_rfl) (by kernel_rfl) ?_
        iterate 13 ((refine wpY_q rfl rfl _ (fun w' hx' => by go_simp; try rfl) ?_; go_simp))
        refine wpY_nil ?_
        clear hA2 hd
        have E3 := Ext.drew' w2
        have hR3 := hR2.ext E3
        have hb3 := E3.heap' hb2
        have hB3 := hB2.ext E3
        have hG3 := grown_drew hG2
        generalize w2.drew = w3 at hR3 hb3 hB3 hG3 ⊢
        have hc3 := fun j => hR3.cells w3 j (Below.refl _ _)
        go_wp2
        clear hc3
        have hw3 : IntKind.i64.wrap ((at_ : Int) + (j : Int) + (k : Int) / 2) = (at_ : Int) + (j : Int) + (k : Int) / 2 := by rw [IntKind.wrap_i64]; omega
        have hA3 := hR3.cells
        have E4 := Ext.drew' w3
        refine wp_region_e [] (.qs [0, 1, 2, 3, 4, 5, 6, 7, 8, 9, 10, 11, 12, 13, 14, 15] (.l 16 (.qs [17] .nil))) (by kernel_rfl) (by kernel_rfl) ?_
        iterate 15 ((refine wpY_q rfl rfl _ (fun w' hx' => by go_simp; try rfl) ?_; go_simp))
        refine wpY_sl rfl rfl (.tmp 39) (.tmp 43) (.tmp 50) rfl Try.elB rfl (fun w' h => (hB3.ext h).row) (at_ + j) (k / 2) rfl rfl (by omega) (by omega) (by omega) ?_
        intro a4 hr4
        refine wpY_l rfl rfl (owp_clone _ _ rfl Try.elB rfl rfl (hr4 _ E4) (fun u hu => u8_oneCell l u (List.mem_of_mem_drop (List.mem_of_mem_take hu))) (by omega) ?_)
        intro a5 c5 w5 ho5 hx5
        have E5 := E4.trans' hx5
        refine ⟨fun _ => E5, ?_⟩
        go_simp
        ((refine wpY_q rfl rfl _ (fun w' hx' => by go_simp; try rfl) ?_; go_simp))
        refine wpY_nil ?_
        have hR5 := hR3.ext E5
        have hb5 := E5.heap' hb3
        have hG5 : w.grownBy w5 (some g) := chg_trans hG3 (grown_ext E5) (fun b hb => by cases hb)
        have ho6 := own_base ho5 (show w.heap.size ≤ w3.drew.heap.size from hG3.size)
        clear hA3 hw1 hw2 hw3 hr4 ho5 hB3 E4 hR3 hb3
        have hR6 : Dr (w5.setCell ⟨g, 1, none⟩ (.int .i64 ((at_ : Int) + (j : Int) + (k : Int) / 2))) g (.slice a n c) ((at_ : Int) + (j : Int) + (k : Int) / 2) false := hR5.set1
        have hg6 := grown_setCell' w5 g 1 (.int .i64 ((at_ : Int) + (j : Int) + (k : Int) / 2))
        have hb6 := heap_kept hb5 hg6 hgb
        have hG6 := grown_trans' hG5 hg6
        have hc5 := fun j => hR5.cells w5 j (Below.refl _ _)
        have hf5 := frozen_none hR5
        go_wp2_with (first
          | ((with_reducible refine atStore 2 ?_); refine wpList_store_mid rfl 83 _ _ rfl w.heap.size 0 #[.int .i64 0, .int .i64 0, .slice a5 (k / 2) c5] rfl rfl (there_box hb6 (by simp)) (by kernel_rfl) (by simp [Value.oneCell']) ?_)
          | fail)
        have hb7 := box_set3 (x' := .int .i64 0) (y' := .int .i64 0) (z' := .slice a5 (k / 2) c5) hb6
        have hg7 := grown_setCells w.heap.size [.int .i64 0, .int .i64 0, .slice a5 (k / 2) c5] 0 (w5.setCell ⟨g, 1, none⟩ (.int .i64 ((at_ : Int) + (j : Int) + (k : Int) / 2)))
        (try simp only [Exit.inBlock, Exit.then]); refine bodyPost_ret (results_cells rfl _ w.heap.size [.int .i64 0, .int .i64 0, .slice a5 (k / 2) c5] _ rfl (fun i v hi => by rw [cell_of_row _ _ i _ _ _ hb7]; simpa using hi) Try.underlying83 rfl (by kernel_rfl)) rfl ?_
        have ho7 : w5.ownsRow w.heap.size 5 1 (.slice a5 (k / 2) c5) (k / 2) (((List.drop j (List.drop at_ l)).take (k / 2)).map Proofs.Ytkhjeeaojlaagaa.u8) := by
          rw [List.drop_drop, List.map_take, List.map_drop]
          simpa using ho6
        have ho8 := own_other ho7 hg6 (fun e => by have := (own_block ho7 _ e).1; omega)
        have hne8 : blockOf a5 ≠ some w.heap.size := fun e => own_apart ho8 hb6 (by decide) e.symm
        have ho9 := own_other ho8 hg7 hne8
        refine ⟨⟨0, 0, a5, k / 2, c5, (List.drop j (List.drop at_ l)).take (k / 2)⟩, rfl, rfl, ho9, (by show k / 2 ≤ 1048576; omega), (i64_of (by decide) (by decide) : i64B 0), (i64_of (by decide) (by decide) : i64B 0), ?_, grown_store hG6 hg7 (Nat.le_refl _)⟩
        rw [show ((at_ + (j + k / 2) : Nat) : Int) = (at_ : Int) + (j : Int) + (k : Int) / 2 by omega]
        exact hR6.kept hg7 hgb
end Go.Proofs.Ytkhjeeaojlaagaa
