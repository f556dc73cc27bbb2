/-
  The law ChainGets.
-/
import Derived.Test.YtkhjeeaojlaagaaChaT
namespace Go.Proofs.Ytkhjeeaojlaagaa
open Go.RowKit

set_option maxRecDepth 100000 in
set_option maxHeartbeats 4000000 in
theorem ChainGets_walk (a1 : Option Addr) (n1 c1 : Nat) (L1 : List Int) (i : Int) (w : World)
    (hl : Row w a1 n1 c1 1 (L1.map (Value.int .i64))) (hli : ∀ x ∈ L1, -9223372036854775808 ≤ x ∧ x ≤ 9223372036854775807) (ha1 : ∀ p, a1 = some p → 0 < n1 → p.block < w.heap.size)
    (h0 : -9223372036854775808 ≤ i) (h1 : i ≤ 9223372036854775807) :
    Calls Try.prog 4 #[.slice a1 n1 c1, .int .i64 i] w (LawPost w) := by
  have ht : Tape (w.alloc (.cells #[.slice a1 n1 c1, .int .i64 0] 25)) w.heap.size 0 :=
    ⟨a1, n1, c1, L1, heap_alloc_new w _, hl.ext (Ext.alloc' _ _), ha1, hli⟩
  have hx1 : Ext w (w.alloc (.cells #[.slice a1 n1 c1, .int .i64 0] 25)) := Ext.alloc' _ _
  have HT := Lib.hid ht
  clear ht
  go_enter Try.func4, Try.ntmps4
  go_wp2_with (first
    | (go_at_call 17; (with_reducible refine (faulty27_7 w.heap.size 0 _ HT.out (by omega)).mono ?_); rintro e w2 ⟨a, m, c, k2, L, rfl, hO, hm, ht2, hk2, hg2⟩; have HO := Lib.hid hO; clear hO)
    | (go_at_call 18; (with_reducible refine (Next_any w.heap.size k2 ((m : Int) + 2) _ ht2 (by omega) (by omega)).mono ?_); rintro e w3 ⟨u, rfl, hu, ht3, hg3⟩; have hu' : u < m + 2 := (by unfold Below1 at hu; omega); clear hu)
    | fail)
  have hal := Ext.alloc' w3 (.cells #[.int .i64 i, .int .i64 ((u : Int) - 1)] 3)
  have HX4 := Lib.hid ((hx1.rd (grown_trans' hg2 hg3) (Nat.le_refl _)).trans' hal)
  have HL4 := Lib.hid ((HO.out.kept hg3 HT.out.lt).links.ext hal)
  have HR4 := Lib.hid (Row.new w3 #[.int .i64 i, .int .i64 ((u : Int) - 1)] 3 2 1 rfl (by decide))
  have HI := Lib.hid (show i64B i from ⟨h0, h1⟩)
  have HU := Lib.hid (show i64B ((u : Int) - 1) from ⟨by omega, by omega⟩)
  obtain ⟨S, er, hst⟩ : ∃ S er, stC (L.map Lk.d) = (S, er) := ⟨_, _, rfl⟩
  have HST := Lib.hid hst
  clear ht2 ht3 hg2 hg3 hx1 hal hst
  go_loopw [8] (TwoRel (w3.alloc (.cells #[.int .i64 i, .int .i64 ((u : Int) - 1)] 3))) (fun i _ => 2 - (intOf i).toNat)
  case atStart => exact ⟨0, rfl, by omega, Below.refl _ _⟩
  case round =>
    obtain ⟨j, rfl, hj, hx5⟩ := hrel
    rename World => w5
    by_cases hjn : j < 2
    rotate_left
    · obtain rfl : j = 2 := by omega
      go_wp2_with (first
        | (go_at_call 15; (with_reducible refine (known27_any _).mono ?_); rintro e w8 ⟨rfl, hx8⟩)
        | fail)
      go_ret
      exact ⟨rfl, (HX4.out.trans' hx5).trans' hx8⟩
    obtain ⟨v, hv, hvb⟩ := two_get hjn HI.out HU.out
    obtain ⟨l, e0, hgv⟩ : ∃ l e0, getV S er m v = (l, e0) := ⟨_, _, rfl⟩
    have HG := Lib.hid hgv
    have HV := Lib.hid hv
    have HVB := Lib.hid hvb
    have HL5 := Lib.hid (HL4.out.ext hx5)
    have HR5 := Lib.hid (HR4.out.ext hx5)
    clear hgv hv hvb
    go_wp2_with (first
      | ((with_reducible refine atSlot 36 ?_); refine wpList_of_wp rfl (owp_ix (o := ⟨some 36, _, _, _, _, _⟩) _ _ rfl Try.elI rfl HR5.out j rfl rfl hjn ?_); intro b8 o8 hc8; have hd9 := two_cell HV.out hc8; clear hc8)
      | (go_at_call 19; (with_reducible refine (chGet_any a m c L v _ HL5.out (by omega) HVB.out HST.out HG.out).mono ?_); rintro e w6 ⟨a6, n6, c6, rfl, ho6, hx6⟩; have HO6 := Lib.hid ho6; clear ho6 hd9)
      | ((with_reducible refine atSlot 45 ?_); refine wpList_of_wp rfl (owp_ix (o := ⟨some 45, _, _, _, _, _⟩) _ _ rfl Try.elI rfl (HR5.out.ext hx6) j rfl rfl hjn ?_); intro b9 o9 hc9; have hd10 := two_cell HV.out hc9; clear hc9)
      | (go_at_call 20; (with_reducible refine (refGet27_any a m c L v _ (HL5.out.ext hx6) (by omega) HVB.out HST.out HG.out).mono ?_); rintro e w7 ⟨a7, n7, c7, rfl, ho7, hx7⟩; have HO7 := Lib.hid ho7; clear ho7 hd10)
      | fail)
    have hx67 := hx6.trans' hx7
    have hB6 := (Bytes.of_own HO6.out).ext hx7
    have hB7 := Bytes.of_own HO7.out
    have R7 : ∀ w', Ext w7 w' → Row w' (some ⟨w3.heap.size, 0, none⟩) 2 2 1 [.int .i64 i, .int .i64 ((u : Int) - 1)] := fun w' h => HR5.out.ext (hx67.trans' h)
    have E8 := Ext.drew' w7
    refine wp_region_e [] (.qs [0, 1, 2, 3, 4, 5, 6, 7, 8, 9, 10, 11, 12, 13, 14, 15, 17, 18, 19, 20, 21] (.l 16 (.l 22 (.qs [23, 24] .nil)))) (by kernel_rfl) (by kernel_rfl) ?_
    iterate 5 ((refine wpY_q rfl rfl _ (fun w' hx' => by go_simp; try rfl) ?_; go_simp))
    refine wpY_conv rfl rfl (.tmp 54) rfl rfl (fun w' h => hB6.ext h) Try.underlying28 Try.underlying5 Try.underlying9 ?_
    ((refine wpY_q rfl rfl _ (fun w' hx' => by go_simp; try rfl) ?_; go_simp))
    refine wpY_conv rfl rfl (.tmp 56) rfl rfl (fun w' h => hB7.ext h) Try.underlying28 Try.underlying5 Try.underlying9 ?_
    iterate 6 ((refine wpY_q rfl rfl _ (fun w' hx' => by go_simp; try rfl) ?_; go_simp))
    refine wpY_ix rfl rfl (.tmp 62) (.tmp 63) rfl Try.elI rfl R7 j rfl rfl hjn ?_
    intro b4 o4 hc4
    have hd4 : ∀ w', Ext w7 w' → w'.cell? ⟨b4, o4, none⟩ = some (.int .i64 v) := fun w' h => two_cell HV.out (fun i hi => hc4 i hi w' h)
    clear hc4
    refine wpY_q rfl rfl (.int .i64 v) (fun w' hx' => by have hb' := hd4 w' hx'; go_simp; try rfl) ?_
    go_simp
    iterate 3 ((refine wpY_q rfl rfl _ (fun w' hx' => by go_simp; try rfl) ?_; go_simp))
    refine wpY_ix rfl rfl (.tmp 68) (.tmp 69) rfl Try.elI rfl R7 j rfl rfl hjn ?_
    intro b5 o5 hc5
    have hd5 : ∀ w', Ext w7 w' → w'.cell? ⟨b5, o5, none⟩ = some (.int .i64 v) := fun w' h => two_cell HV.out (fun i hi => hc5 i hi w' h)
    clear hc5
    refine wpY_q rfl rfl (.int .i64 v) (fun w' hx' => by have hb' := hd5 w' hx'; go_simp; try rfl) ?_
    go_simp
    clear hd4 hd5
    refine wpY_l rfl rfl ?_
    go_simp
    refine (chDepth_any a m c L v _ (HL5.out.ext (hx67.trans' E8)) (by omega) HVB.out HST.out).mono ?_
    rintro e w9 ⟨rfl, hx9⟩
    have E9 := E8.trans' hx9
    refine ⟨E9, ?_⟩
    refine wpY_l rfl rfl ?_
    go_simp
    refine (refDepth27_any a m c L v _ (HL5.out.ext (hx67.trans' E9)) (by omega) HVB.out HST.out).mono ?_
    rintro e w10 ⟨rfl, hx10⟩
    have E10 := E9.trans' hx10
    refine ⟨E10, ?_⟩
    iterate 2 ((refine wpY_q rfl rfl _ (fun w' hx' => by go_simp; try rfl) ?_; go_simp))
    refine wpY_nil ?_
    go_wp2
    go_roundw
    case rel => exact ⟨j + 1, by go_num, by omega, (hx5.trans' hx67).trans' E10⟩
    case measure => simp [intOf]; omega
end Go.Proofs.Ytkhjeeaojlaagaa
