/-
  The law DeltaChecks.
-/
import Derived.Test.YtcljlglmnagodaaDelS
import Derived.Test.YtcljlglmnagodaaDelT
namespace Go.Proofs.Ytcljlglmnagodaa
open Go.RowKit

theorem Try.elOO : Elem Try.prog 42 29 1 24 (.slice none 0 0) := ⟨Try.underlying42, by kernel_rfl, rfl, by decide⟩
theorem ap_check {b : List UInt8} {os : List Dp} {l : List UInt8} {er n e : Int} (h : apRes b os = (l, er)) (h2 : ckRes b.length os = (n, e)) : e = er ∧ n = (l.length : Int) := by
  unfold apRes at h
  rw [h2] at h
  simp only at h
  by_cases he : e = 0
  · rw [if_pos he] at h
    simp only [Prod.mk.injEq] at h
    obtain ⟨rfl, rfl⟩ := h
    subst he
    obtain ⟨h3, h4, -⟩ := ckRes_ok h2
    exact ⟨rfl, by rw [h4, appD_length h3]⟩
  · rw [if_neg he] at h
    simp only [Prod.mk.injEq] at h
    obtain ⟨rfl, rfl⟩ := h
    exact ⟨rfl, ckRes_err h2 he⟩
def ChRel (w0 : World) (i : Value) (wr : World) : Prop := ∃ j : Nat, i = .int .i64 j ∧ j ≤ 2 ∧ Ext w0 wr

set_option maxRecDepth 100000 in
set_option maxHeartbeats 4000000 in
theorem DeltaChecks_walk (base : Int) (a : Option Addr) (n c : Nat) (L : List Od) (a1 : Option Addr) (n1 c1 : Nat) (L1 : List Int) (w : World) (_h0 : -9223372036854775808 ≤ base) (_h1 : base ≤ 9223372036854775807) (hR : Ops w a n c L) (hn : n * 40 ≤ 140737488351232)
    (hl : Row w a1 n1 c1 1 (L1.map (Value.int .i64))) (hli : ∀ x ∈ L1, -9223372036854775808 ≤ x ∧ x ≤ 9223372036854775807) (ha1 : ∀ p, a1 = some p → 0 < n1 → p.block < w.heap.size) :
    Calls Try.prog 6 #[.int .i64 base, .slice a n c, .slice a1 n1 c1] w (LawPost w) := by
  have ht : Tape (w.alloc (.cells #[.slice a1 n1 c1, .int .i64 0] 25)) w.heap.size 0 :=
    ⟨a1, n1, c1, L1, heap_alloc_new w _, hl.ext (Ext.alloc' _ _), ha1, hli⟩
  have hx1 : Ext w (w.alloc (.cells #[.slice a1 n1 c1, .int .i64 0] 25)) := Ext.alloc' _ _
  have HT := Lib.hid ht
  clear ht
  go_enter Try.func6, Try.ntmps6
  go_wp2_with (first
    | (go_at_call 24; (with_reducible refine (text_any w.heap.size 0 20 20 (by omega) _ HT.out (by omega) (by omega)).mono ?_); rintro e w2 ⟨a2, m2, c2, k2, l2, rfl, ho2, hm2, ht2, hk2, hg2⟩; have hx2 := hx1.rd hg2 (Nat.le_refl _))
    | (go_at_call 31; (with_reducible refine (faulty_any w.heap.size k2 m2 _ ht2 (by omega) (by omega)).mono ?_); rintro e w3 ⟨a3, m3, c3, k3, L3, rfl, hO3, hm3, hf3, ht3, hk3, hg3⟩; refine Stop.of ?_)
    | fail)
  have hb3 := (Bytes.of_own ho2).apart hg3 (fun p hp => by have := own_fresh ho2 p hp; simp at this; omega)
  have hxw3 := hx2.rd hg3 (Nat.le_refl _)
  have hE4 : Ext w3 (w3.alloc (.cells #[.slice a n c, .slice a3 m3 c3] 29)) := Ext.alloc' _ _
  have hrow4 := Row.new w3 #[.slice a n c, .slice a3 m3 c3] 29 2 1 rfl (by decide)
  have hb4 := hb3.ext hE4
  have hR4 := hR.ext (hxw3.trans' hE4)
  have hF4 := hO3.ops.ext hE4
  have hxw4 := hxw3.trans' hE4
  have HB := Lib.hid hb4
  have HR := Lib.hid hR4
  have HF := Lib.hid hF4
  have HROW := Lib.hid hrow4
  clear hg2 hg3 hb3 ho2 ht2 ht3 hO3 hb4 hR4 hF4 hrow4 hx2 hxw3 hk2 hk3 hE4
  refine Stop.out ?_
  go_wp2
  generalize w3.alloc (.cells #[.slice a n c, .slice a3 m3 c3] 29) = w4 at HB HR HF HROW hxw4 ⊢
  go_loopw [10] (ChRel w4) (fun i _ => 2 - (intOf i).toNat)
  case atStart => exact ⟨0, rfl, Nat.zero_le _, Below.refl _ _⟩
  case round =>
    obtain ⟨j, rfl, hj, hx⟩ := hrel
    rename World => w5
    by_cases hj2 : j < 2
    rotate_left
    · obtain rfl : j = 2 := by omega
      go_wp2_with (first
        | (go_at_call 28; (with_reducible refine (known_any _).mono ?_); rintro e w6 ⟨rfl, hx6⟩)
        | fail)
      go_ret
      exact ⟨rfl, (hxw4.trans' hx).trans' hx6⟩
    have hsel : ∃ sa sn sc SL, [Value.slice a n c, Value.slice a3 m3 c3][j]? = some (.slice sa sn sc) ∧ (∀ w', Ext w4 w' → Ops w' sa sn sc SL) ∧ sn ≤ 140737488355328 := by
      rcases (by omega : j = 0 ∨ j = 1) with rfl | rfl
      · exact ⟨a, n, c, L, rfl, fun w' h => HR.out.ext h, by omega⟩
      · exact ⟨a3, m3, c3, L3, rfl, fun w' h => HF.out.ext h, by omega⟩
    obtain ⟨sa, sn, sc, SL, hcell, hops, hsn⟩ := hsel
    obtain ⟨n0, e0, hC1⟩ : ∃ n0 e0, ckRes base (SL.map Od.d) = (n0, e0) := ⟨_, _, rfl⟩
    obtain ⟨lr, er, hA1⟩ : ∃ lr er, apRes l2 (SL.map Od.d) = (lr, er) := ⟨_, _, rfl⟩
    obtain ⟨n2, e2, hC2⟩ : ∃ n2 e2, ckRes l2.length (SL.map Od.d) = (n2, e2) := ⟨_, _, rfl⟩
    obtain ⟨rfl, rfl⟩ := ap_check hA1 hC2
    rw [HB.out.len] at hC2
    have HC1 := Lib.hid hC1
    have HA1 := Lib.hid hA1
    have HC2 := Lib.hid hC2
    have HCELL := Lib.hid hcell
    have HOPS := Lib.hid hops
    have t1 : True := trivial
    clear hC1 hA1 hC2 hcell hops
    go_wp2_with (first
      | ((with_reducible refine atSlot 42 ?_); refine wpList_of_wp rfl (owp_ix (o := ⟨some 42, _, _, _, _, _⟩) _ _ rfl Try.elOO rfl (HROW.out.ext hx) j rfl rfl hj2 ?_); intro b42 o42 hc42; have hd42 : w5.cell? ⟨b42, o42, none⟩ = some (.slice sa sn sc) := (hc42 0 (by decide)).trans (by rw [Nat.mul_one, Nat.add_zero]; exact HCELL.out); clear hc42)
      | (go_at_call 32; have _t := t1; (with_reducible refine (Check_any base sa sn sc SL _ (HOPS.out _ hx) hsn HC1.out).mono ?_); rintro e w6 ⟨rfl, hx6⟩; clear t1; have hy6 := hx.trans' hx6)
      | ((with_reducible refine atSlot 51 ?_); refine wpList_of_wp rfl (owp_ix (o := ⟨some 51, _, _, _, _, _⟩) _ _ rfl Try.elOO rfl (HROW.out.ext hy6) j rfl rfl hj2 ?_); intro b51 o51 hc51; have hd51 : w6.cell? ⟨b51, o51, none⟩ = some (.slice sa sn sc) := (hc51 0 (by decide)).trans (by rw [Nat.mul_one, Nat.add_zero]; exact HCELL.out); clear hc51)
      | (go_at_call 33; (with_reducible refine (refCheck_any base sa sn sc SL _ (HOPS.out _ hy6) hsn HC1.out).mono ?_); rintro e w7 ⟨rfl, hx7⟩; have hy7 := hy6.trans' hx7)
      | ((with_reducible refine atSlot 60 ?_); refine wpList_of_wp rfl (owp_ix (o := ⟨some 60, _, _, _, _, _⟩) _ _ rfl Try.elOO rfl (HROW.out.ext hy7) j rfl rfl hj2 ?_); intro b60 o60 hc60; have hd60 : w7.cell? ⟨b60, o60, none⟩ = some (.slice sa sn sc) := (hc60 0 (by decide)).trans (by rw [Nat.mul_one, Nat.add_zero]; exact HCELL.out); clear hc60)
      | (go_at_call 34; (with_reducible refine (Apply_any a2 m2 c2 l2 sa sn sc SL _ (HB.out.ext hy7) (HOPS.out _ hy7) (by omega) hsn HA1.out).mono ?_); rintro e w8 ⟨a8, n8, c8, rfl, ho8, hx8⟩; have hy8 := hy7.trans' hx8)
      | ((with_reducible refine atSlot 69 ?_); refine wpList_of_wp rfl (owp_ix (o := ⟨some 69, _, _, _, _, _⟩) _ _ rfl Try.elOO rfl (HROW.out.ext hy8) j rfl rfl hj2 ?_); intro b69 o69 hc69; have hd69 : w8.cell? ⟨b69, o69, none⟩ = some (.slice sa sn sc) := (hc69 0 (by decide)).trans (by rw [Nat.mul_one, Nat.add_zero]; exact HCELL.out); clear hc69)
      | (go_at_call 35; (with_reducible refine (refApply_any a2 m2 c2 l2 sa sn sc SL _ (HB.out.ext hy8) (HOPS.out _ hy8) (by omega) hsn HA1.out).mono ?_); rintro e w9 ⟨a9, n9, c9, rfl, ho9, hx9⟩; have hy9 := hy8.trans' hx9)
      | ((with_reducible refine atSlot 79 ?_); refine wpList_of_wp rfl (owp_ix (o := ⟨some 79, _, _, _, _, _⟩) _ _ rfl Try.elOO rfl (HROW.out.ext hy9) j rfl rfl hj2 ?_); intro b79 o79 hc79; have hd79 : w9.cell? ⟨b79, o79, none⟩ = some (.slice sa sn sc) := (hc79 0 (by decide)).trans (by rw [Nat.mul_one, Nat.add_zero]; exact HCELL.out); clear hc79)
      | (go_at_call 32; (with_reducible refine (Check_any m2 sa sn sc SL _ (HOPS.out _ hy9) hsn HC2.out).mono ?_); rintro e w10 ⟨rfl, hx10⟩; have hy10 := hy9.trans' hx10; have hb10 := (Bytes.of_own ho8).ext (hx9.trans' hx10); have hc10 := (Bytes.of_own ho9).ext hx10; have hl9 : (lr.length : Int) = n9 := (by rw [own_len ho9]); obtain ⟨q1, q2⟩ := eqI hl9; clear hl9)
      | ((with_reducible refine atSlot 99 ?_); refine wpList_of_wp rfl (owp_conv (o := ⟨some 99, _, _, _, _, _⟩) _ rfl rfl hb10 Try.underlying26 Try.underlying5 Try.underlying9 ?_))
      | ((with_reducible refine atSlot 101 ?_); refine wpList_of_wp rfl (owp_conv (o := ⟨some 101, _, _, _, _, _⟩) _ rfl rfl hc10 Try.underlying26 Try.underlying5 Try.underlying9 ?_))
      | fail)
    go_roundw
    case rel => exact ⟨j + 1, by go_num, by omega, hy10⟩
    case measure => simp [intOf]; omega
end Go.Proofs.Ytcljlglmnagodaa
