/-
  The reader's end.
-/
import Derived.Test.YtncdcpaelecikaaPackO
import Derived.Test.YtncdcpaelecikaaPackP
namespace Go.Proofs.Ytncdcpaelecikaa
open Go.RowKit

/-- What the end answers that begins at an offset, behind cnt frames. -/
def endE (l : List UInt8) (at_ cnt : Nat) : Int :=
  match uintOk l at_ with
  | none => 293
  | some (k, a1) =>
    match uintOk l a1 with
    | none => 293
    | some (s, a2) => if k ≠ cnt then 293 else if a2 ≠ l.length then 293 else if s ≠ fp (l.take a1) then 294 else 0
def EndPost (g : Nat) (V C : Value) (w : World) (r : Int) (e : Ending) (w' : World) : Prop := e = .returned (.int .i64 r) ∧ (∃ at' good' : Int, Rd w' g V at' C good') ∧ w.grownBy w' (some g)

theorem eqI {x y : Int} (h : x = y) : (x == y) = true ∧ (x != y) = false := ⟨beq_iff_eq.2 h, by simp [bne, beq_iff_eq.2 h]⟩
theorem neI {x y : Int} (h : x ≠ y) : (x == y) = false ∧ (x != y) = true := ⟨beq_eq_false_iff_ne.2 h, by simp [bne, beq_eq_false_iff_ne.2 h]⟩
theorem Bytes.off_rd {w : World} {a a' b' : Option Addr} {n c n' c' m' k' g : Nat} {l : List UInt8} {x y : Int} (h : Bytes w a n c l) (hR : Rd w g (.slice a' n' c') x (.slice b' m' k') y) (hn : 0 < n) : ∀ p, a = some p → p.block ≠ g := fun p hp hg => by
  have h0 := h.2.cell p hp 0 (u8 (l[0]'(by have := h.len; omega))) (by rw [List.getElem?_map, List.getElem?_eq_getElem (by have := h.len; omega)]; rfl)
  rcases h.2.at_ p hp with hc | ⟨b, o, rfl⟩
  · have := h.2.le; omega
  · obtain rfl : b = g := hg
    have h1 := hR.cells w o (Below.refl _ _)
    rw [Addr.add_lit, Nat.add_zero] at h0
    rw [h0] at h1
    match o, h1 with
    | 0, h1 => simp [u8] at h1
    | 1, h1 => simp [u8] at h1
    | 2, h1 => simp [u8] at h1
    | 3, h1 => simp [u8] at h1
    | o + 4, h1 => simp at h1

set_option maxRecDepth 100000 in
set_option maxHeartbeats 4000000 in
theorem end_any (g : Nat) (a : Option Addr) (n c : Nat) (ca : Option Addr) (cn cc : Nat) (at_ : Nat) (good : Int) (l : List UInt8) (w : World) (hb : Bytes w a n c l) (hne : ∀ p, a = some p → p.block ≠ g)
    (hn : n ≤ 100000000000000) (hR : Rd w g (.slice a n c) at_ (.slice ca cn cc) good) (hcn : cn ≤ 100000000) :
    Calls Try.prog 46 #[.pointer (some ⟨g, 0, none⟩)] w (EndPost g (.slice a n c) (.slice ca cn cc) w (endE l at_ cn)) := by
  have hbl := hb.len
  rcases uint_cases l at_ with ⟨z, a1, u1, r1, h1, h2, h3, hz⟩ | ⟨u1, er, r1, he⟩
  rotate_left
  · have e0 : endE l at_ cn = 293 := by unfold endE; rw [u1]
    have he0 : (er == 0) = false := by rcases he with rfl | rfl | rfl <;> decide
    rw [e0]
    clear e0 he u1
    have R1 := Lib.hid r1
    clear r1
    go_enter Try.func46, Try.ntmps46
    go_wp2_with (go_at_call 65; (with_reducible refine (posUint_no g a n c _ at_ good l er _ hR hb R1.out he0 (by omega)).mono ?_); rintro e w1 ⟨rfl, hR1, hg1⟩)
    go_ret
    exact ⟨rfl, ⟨_, _, hR1⟩, hg1⟩
  have R1 := Lib.hid r1
  clear r1
  obtain ⟨r, hr⟩ : ∃ r, r = endE l at_ cn := ⟨_, rfl⟩
  rw [← hr]
  unfold endE at hr
  rw [u1] at hr
  have t1 : True := trivial
  rcases uint_cases l a1 with ⟨s, a2, u2, r2, h4, h5, h6, hs⟩ | ⟨u2, er, r2, he⟩
  rotate_left
  · simp only [u2] at hr
    have he0 : (er == 0) = false := by rcases he with rfl | rfl | rfl <;> decide
    have HR := Lib.hid hr
    have R2 := Lib.hid r2
    clear he u1 u2 hr r2
    go_enter Try.func46, Try.ntmps46
    go_wp2_with (go_at_call 65; have _t := t1; (with_reducible refine (posUint_ok g a n c _ at_ good l z a1 _ hR hb R1.out (by omega)).mono ?_); rintro e w1 ⟨rfl, hR1, hg1⟩; clear t1)
    have hb1 := hb.apart hg1 hne
    have hA1 := hR1.cells
    refine wp_region_e [] (.qs [0, 1, 2, 3, 4, 5, 6, 7, 8, 9, 10, 11] .nil) (by kernel_rfl) (by kernel_rfl) ?_
    iterate 10 ((refine wpY_q rfl rfl _ (fun w' hx' => by go_simp; try rfl) ?_; go_simp))
    refine wpY_sl_hi rfl rfl (.tmp 20) (.tmp 25) rfl Try.elB rfl (fun w' h => (hb1.ext h).row) a1 rfl rfl (by omega) ?_
    intro a3 hr3
    ((refine wpY_q rfl rfl _ (fun w' hx' => by go_simp; try rfl) ?_; go_simp))
    refine wpY_nil ?_
    have hR1' := hR1.ext (Ext.drew' w1)
    have hb1' := hb1.ext (Ext.drew' w1)
    have hg1' := grown_trans' hg1 (grown_drews w1 g)
    clear hA1 hR1 hb1
    go_wp2_with (go_at_call 65; (with_reducible refine (posUint_no g a n c _ a1 good l er _ hR1' hb1' R2.out he0 (by omega)).mono ?_); rintro e w2 ⟨rfl, hR2, hg2⟩)
    have hA2 := hR2.cells
    refine wp_region_e [] (.qs [0, 1, 2, 3, 4, 5, 6, 7, 8, 9, 10, 11, 12, 13, 14, 15, 16, 17, 18, 19, 20, 21, 22, 23, 24, 25] .nil) (by kernel_rfl) (by kernel_rfl) ?_
    iterate 26 (first | ((refine wpY_q rfl rfl _ (fun w' hx' => by go_simp; try rfl) ?_; go_simp)) | ((refine wpY_skip rfl rfl ?_; go_simp)))
    refine wpY_nil ?_
    clear hA2
    go_wp2
    go_ret
    rw [HR.out]
    exact ⟨rfl, ⟨_, _, hR2.ext (Ext.drew' _)⟩, grown_trans' (grown_trans' hg1' hg2) (grown_drews _ g)⟩
  simp only [u2] at hr
  have HR := Lib.hid hr
  have R2 := Lib.hid r2
  clear u1 u2 hr r2
  go_enter Try.func46, Try.ntmps46
  go_wp2_with (go_at_call 65; have _t := t1; (with_reducible refine (posUint_ok g a n c _ at_ good l z a1 _ hR hb R1.out (by omega)).mono ?_); rintro e w1 ⟨rfl, hR1, hg1⟩; clear t1)
  have hb1 := hb.apart hg1 hne
  have hA1 := hR1.cells
  refine wp_region_e [] (.qs [0, 1, 2, 3, 4, 5, 6, 7, 8, 9, 10, 11] .nil) (by kernel_rfl) (by kernel_rfl) ?_
  iterate 10 ((refine wpY_q rfl rfl _ (fun w' hx' => by go_simp; try rfl) ?_; go_simp))
  refine wpY_sl_hi rfl rfl (.tmp 20) (.tmp 25) rfl Try.elB rfl (fun w' h => (hb1.ext h).row) a1 rfl rfl (by omega) ?_
  intro a3 hr3
  ((refine wpY_q rfl rfl _ (fun w' hx' => by go_simp; try rfl) ?_; go_simp))
  refine wpY_nil ?_
  have hR1' := hR1.ext (Ext.drew' w1)
  have hb1' := hb1.ext (Ext.drew' w1)
  have hr3' : Bytes w1.drew a3 a1 c (l.take a1) := Bytes.take (hr3 _ (Ext.drew' w1))
  have hg1' := grown_trans' hg1 (grown_drews w1 g)
  have hne3 := hr3'.off_rd hR1' (by omega)
  clear hA1 hR1 hb1 hr3
  go_wp2_with (go_at_call 65; (with_reducible refine (posUint_ok g a n c _ a1 good l s a2 _ hR1' hb1' R2.out (by omega)).mono ?_); rintro e w2 ⟨rfl, hR2, hg2⟩)
  have hA2 := hR2.cells
  have hwr : IntKind.u64.wrap (cn : Int) = (cn : Int) := by rw [IntKind.wrap_u64]; omega
  refine wp_region_e [] (.qs [0, 1, 2, 3, 4, 5, 6, 7, 8, 9, 10, 11, 12, 13, 14, 15, 16, 17, 18, 19, 20, 21, 22, 23, 24, 25] .nil) (by kernel_rfl) (by kernel_rfl) ?_
  by_cases hz1 : z = cn
  rotate_left
  · obtain ⟨hq, hqn⟩ := neI (x := (z : Int)) (y := (cn : Int)) (by omega)
    iterate 26 (first | ((refine wpY_q rfl rfl _ (fun w' hx' => by go_simp; try rfl) ?_; go_simp)) | ((refine wpY_skip rfl rfl ?_; go_simp)))
    refine wpY_nil ?_
    clear hA2
    go_wp2
    go_ret
    rw [HR.out, if_pos hz1]
    exact ⟨rfl, ⟨_, _, hR2.ext (Ext.drew' _)⟩, grown_trans' (grown_trans' hg1' hg2) (grown_drews _ g)⟩
  obtain ⟨hq, hqn⟩ := eqI (x := (z : Int)) (y := (cn : Int)) (by omega)
  by_cases ha2 : a2 = l.length
  rotate_left
  · obtain ⟨hq2, hq2n⟩ := neI (x := (a2 : Int)) (y := (n : Int)) (by omega)
    iterate 26 (first | ((refine wpY_q rfl rfl _ (fun w' hx' => by go_simp; try rfl) ?_; go_simp)) | ((refine wpY_skip rfl rfl ?_; go_simp)))
    refine wpY_nil ?_
    clear hA2
    go_wp2
    go_ret
    rw [HR.out, if_neg (by simpa using hz1), if_pos ha2]
    exact ⟨rfl, ⟨_, _, hR2.ext (Ext.drew' _)⟩, grown_trans' (grown_trans' hg1' hg2) (grown_drews _ g)⟩
  obtain ⟨hq2, hq2n⟩ := eqI (x := (a2 : Int)) (y := (n : Int)) (by omega)
  iterate 26 (first | ((refine wpY_q rfl rfl _ (fun w' hx' => by go_simp; try rfl) ?_; go_simp)) | ((refine wpY_skip rfl rfl ?_; go_simp)))
  refine wpY_nil ?_
  clear hA2 hq hq2 hwr hqn hq2n
  have hr4 := (hr3'.apart hg2 hne3).ext (Ext.drew' w2)
  have HR2 := Lib.hid (show r = if s ≠ fp (l.take a1) then 294 else 0 by rw [HR.out, if_neg (by simpa using hz1), if_neg (by simpa using ha2)])
  by_cases hs1 : s = fp (l.take a1)
  rotate_left
  · obtain ⟨hq3, hq3n⟩ := neI (x := (s : Int)) (y := ((fp (l.take a1) : Nat) : Int)) (by omega)
    have HS := Lib.hid hs1
    clear hs1
    go_wp2_with (go_at_call 34; (with_reducible refine (Sum_any a3 a1 c (l.take a1) _ hr4 (by omega)).mono ?_); rintro e w3 ⟨rfl, rfl⟩)
    go_ret
    rw [HR2.out, if_pos HS.out]
    exact ⟨rfl, ⟨_, _, hR2.ext (Ext.drew' _)⟩, grown_trans' (grown_trans' hg1' hg2) (grown_drews _ g)⟩
  · obtain ⟨hq3, hq3n⟩ := eqI (x := (s : Int)) (y := ((fp (l.take a1) : Nat) : Int)) (by omega)
    have HS := Lib.hid hs1
    clear hs1
    go_wp2_with (go_at_call 34; (with_reducible refine (Sum_any a3 a1 c (l.take a1) _ hr4 (by omega)).mono ?_); rintro e w3 ⟨rfl, rfl⟩)
    go_ret
    rw [HR2.out, if_neg (by simpa using HS.out)]
    exact ⟨rfl, ⟨_, _, hR2.ext (Ext.drew' _)⟩, grown_trans' (grown_trans' hg1' hg2) (grown_drews _ g)⟩
end Go.Proofs.Ytncdcpaelecikaa
