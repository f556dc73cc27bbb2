/-
  Apply, the reference's.
-/
import Derived.Test.YtkhjeeaojlaagaaDelN
namespace Go.Proofs.Ytkhjeeaojlaagaa
open Go.RowKit

set_option maxRecDepth 100000 in
set_option maxHeartbeats 4000000 in
theorem refApply_any (a1 : Option Addr) (n1 c1 : Nat) (b : List UInt8) (a : Option Addr) (n c : Nat) (L : List Od) (w : World) (hb : Bytes w a1 n1 c1 b) (hL : Ops w a n c L) (hn1 : n1 ≤ 140737488355328) (hn : n ≤ 140737488355328) {l : List UInt8} {er : Int} (hr : apRes b (L.map Od.d) = (l, er)) :
    Calls Try.prog 53 #[.slice a1 n1 c1, .slice a n c] w (BytesRes w l er) := by
  obtain ⟨n0, e0, hck⟩ : ∃ n0 e0, ckRes b.length (L.map Od.d) = (n0, e0) := ⟨_, _, rfl⟩
  unfold apRes at hr
  rw [hck] at hr
  simp only at hr
  have hck1 := hck
  rw [hb.len] at hck1
  by_cases he : e0 = 0
  rotate_left
  · rw [if_neg he] at hr
    cases hr
    obtain ⟨q1, q2⟩ := neI he
    have HCK := Lib.hid hck1
    clear hck hck1 he
    go_enter Try.func53, Try.ntmps53
    go_wp2_with (go_at_call 50; (with_reducible refine (refCheck_any n1 a n c L _ hL hn HCK.out).mono ?_); rintro e w1 ⟨rfl, hx1⟩)
    go_ret2
    exact ⟨none, 0, 0, rfl, own_nil _ _ _ _, hx1⟩
  subst he
  simp only [if_true, Prod.mk.injEq] at hr
  obtain ⟨rfl, rfl⟩ := hr
  obtain ⟨hok, hn0, hsz, hb0, hb1, hcnt⟩ := ckRes_ok hck
  obtain ⟨S, hS⟩ : ∃ S, S = sizeD (L.map Od.d) := ⟨_, rfl⟩
  rw [← hS] at hn0 hsz
  subst hn0
  have hn1b : n1 ≤ 1048576 := by rw [hb.len] at hb1; omega
  rw [List.length_map, hL.1] at hcnt
  have HCK := Lib.hid hck1
  have HBL := Lib.hid hb.len
  have HLN := Lib.hid hL.1
  have HOK := Lib.hid hok
  have HS := Lib.hid hS
  have hrow := hL.2.1
  clear hck hck1 hok hS hb0 hb1
  go_enter Try.func53, Try.ntmps53
  go_wp2_with (first
    | (go_at_call 50; (with_reducible refine (refCheck_any n1 a n c L _ hL hn HCK.out).mono ?_); rintro e w1 ⟨rfl, hx1⟩)
    | fail)
  go_loopw [8, 9] (ApRel w b L) (fun _ i _ => n - (intOf i).toNat)
  case atStart => exact ⟨0, 0, 0, none, rfl, rfl, Nat.zero_le _, own_nil _ _ _ _, hx1⟩
  case round =>
    obtain ⟨j, m, oc, oa, rfl, rfl, hj, hown, hx3⟩ := hrel
    rename World => w3
    have hjn' : j ≤ n := by have := HLN.out; omega
    by_cases hjn : j < n
    rotate_left
    · obtain rfl : j = n := by omega
      have h := hown
      rw [List.take_of_length_le (by have := HLN.out; omega)] at h
      have H := Lib.hid h
      clear h hown
      go_wp2
      go_ret2
      exact ⟨oa, m, oc, rfl, H.out, hx3⟩
    obtain ⟨k, hk⟩ : ∃ k, L[j]? = some k := ⟨_, List.getElem?_eq_getElem (by have := HLN.out; omega)⟩
    have hkd : ∀ w', Ext w w' → Bytes w' k.a k.n k.c k.l := fun w' h => (hL.2.2 k (List.mem_of_getElem? hk)).1.ext h
    have hkok := HOK.out k.d (List.mem_map_of_mem (List.mem_of_getElem? hk))
    have hbd := app_room hk HOK.out
    have hbd2 : m + k.d.size ≤ S := by have := own_len hown; have := HS.out; omega
    have hkl := (hL.2.2 k (List.mem_of_getElem? hk)).1.len
    have hts := take_map_succ hk
    have hall : 0 ≤ k.f ∧ 0 ≤ k.z ∧ k.f + k.z ≤ b.length ∧ k.d.app b = (b.drop k.f.toNat).take k.z.toNat ++ k.l ∧ k.z.toNat + k.n = k.d.size := by
      rcases hkok with ⟨hc, h1, h2⟩ | hl
      · have hc' := hc
        simp only [Dp.copies, Bool.and_eq_true, decide_eq_true_eq, List.isEmpty_iff] at hc'
        have hz : 1 ≤ k.z := hc'.1
        have hl0 : k.l = [] := hc'.2
        have hn0 : k.n = 0 := by rw [← hkl, hl0]; rfl
        refine ⟨h1, by omega, h2, ?_, ?_⟩
        · unfold Dp.app; rw [if_pos hc, hl0, List.append_nil]; rfl
        · unfold Dp.size; rw [if_pos hc, hn0]; rfl
      · have hl' := hl
        simp only [Dp.literal, Bool.and_eq_true, decide_eq_true_eq] at hl'
        have hz : k.z = 0 := hl'.1.1
        have hf : k.f = 0 := hl'.1.2
        have hc : k.d.copies = false := by
          cases h : k.d.copies with
          | false => rfl
          | true => rw [Dp.copies_not_literal h] at hl; cases hl
        refine ⟨by omega, by omega, by omega, ?_, ?_⟩
        · unfold Dp.app; rw [hc, hz]; rfl
        · unfold Dp.size; rw [hc, hz]; show 0 + k.n = k.l.length; omega
    obtain ⟨hf0, hz0, hfz, happ, hsize⟩ := hall
    obtain ⟨fn, hfn⟩ := Int.eq_ofNat_of_zero_le hf0
    obtain ⟨zn, hzn⟩ := Int.eq_ofNat_of_zero_le hz0
    rw [hfn, hzn, Int.toNat_natCast, Int.toNat_natCast] at happ
    rw [hzn, Int.toNat_natCast] at hsize
    rw [hfn, hzn] at hfz
    have hfz' : fn + zn ≤ n1 := by have := HBL.out; omega
    have hm1 : m + zn + k.n ≤ S := by omega
    have hwz : IntKind.i64.wrap ((fn : Int) + (zn : Int)) = ((fn + zn : Nat) : Int) := by rw [IntKind.wrap_i64]; omega
    have hr1 := hrow.ext hx3
    have HK := Lib.hid hk
    have HKD := Lib.hid hkd
    have HAPP := Lib.hid happ
    have HTS := Lib.hid hts
    have HFN := Lib.hid hfn
    have HZN := Lib.hid hzn
    clear hk hkd hkok hbd hbd2 hkl hts hf0 hz0 hfz happ hsize hfn hzn
    go_wp2
    refine wp_region_z (fun w' => Ext w w') (hx3.trans' (Ext.drew' _)) [] (.qs [0, 1, 2, 3, 4, 5, 6, 7, 8, 9, 10, 11, 12, 13, 14, 15, 16, 17, 18] (.l 19 (.qs [20] .nil))) (by kernel_rfl) (by kernel_rfl) ?_
    iterate 4 ((refine wpZ_q rfl rfl _ (fun w' hx' => by go_simp; try rfl) ?_; go_simp))
    refine wpZ_ix rfl rfl (.tmp 28) (.tmp 29) rfl Try.elO rfl (fun w' h => hrow.ext h) hx3 j rfl rfl hjn ?_
    intro b3 o3 hc3
    have hd3 : ∀ w', Ext w w' → w'.cell? ⟨b3, o3, none⟩ = some (.int .i64 (fn : Int)) := fun w' h => ((hc3 0 (by omega) w' h).trans (od_get HK.out 0 (by omega))).trans (by rw [← HFN.out]; rfl)
    clear hc3
    iterate 4 ((refine wpZ_q rfl rfl _ (fun w' hx' => by go_simp; try rfl) ?_; go_simp))
    refine wpZ_ix rfl rfl (.tmp 33) (.tmp 34) rfl Try.elO rfl (fun w' h => hrow.ext h) hx3 j rfl rfl hjn ?_
    intro b4 o4 hc4
    have hd4 : ∀ w', Ext w w' → w'.cell? ⟨b4, o4, none⟩ = some (.int .i64 (fn : Int)) := fun w' h => ((hc4 0 (by omega) w' h).trans (od_get HK.out 0 (by omega))).trans (by rw [← HFN.out]; rfl)
    clear hc4
    iterate 4 ((refine wpZ_q rfl rfl _ (fun w' hx' => by go_simp; try rfl) ?_; go_simp))
    refine wpZ_ix rfl rfl (.tmp 38) (.tmp 39) rfl Try.elO rfl (fun w' h => hrow.ext h) hx3 j rfl rfl hjn ?_
    intro b5 o5 hc5
    have hd5 : ∀ w', Ext w w' → w'.cell? ⟨b5, o5 + 1, none⟩ = some (.int .i64 (zn : Int)) := fun w' h => ((hc5 1 (by omega) w' h).trans (od_get HK.out 1 (by omega))).trans (by rw [← HZN.out]; rfl)
    clear hc5
    iterate 3 ((refine wpZ_q rfl rfl _ (fun w' hx' => by go_simp; try rfl) ?_; go_simp))
    refine wpZ_sl rfl rfl (.tmp 27) (.tmp 32) (.tmp 43) rfl Try.elB rfl (fun w' h => (hb.ext h).row) hx3 fn zn rfl rfl rfl (by first | rfl | omega) hfz' ?_
    intro a6 hr6
    have E4 : Ext w3 w3.drew := Ext.drew' _
    clear hd3 hd4 hd5 hwz
    refine wpZ_l rfl rfl (owp_appB (w0 := w) _ _ rfl Try.elB rfl (own_ext hown E4) rfl (Bytes.sub (hr6 _ (hx3.trans' E4))) (by omega) (hx3.trans' E4) ?_)
    intro a7 c7 w7 ho7 hx7 hk7
    refine ⟨fun _ => hx7, ?_⟩
    clear hk7
    go_simp
    ((refine wpZ_q rfl rfl _ (fun w' hx' => by go_simp; try rfl) ?_; go_simp))
    refine wpZ_nil ?_
    have hr7 := hrow.ext hx7
    clear hr6
    go_wp2_with (first
      | ((with_reducible refine atSlot 49 ?_); refine wpList_of_wp rfl (owp_ix (o := ⟨some 49, _, _, _, _, _⟩) _ _ rfl Try.elO rfl hr7 j rfl rfl hjn ?_); intro b8 o8 hc8; have hd8 : w7.cell? ⟨b8, o8 + 2, none⟩ = some (.slice k.a k.n k.c) := (hc8 2 (by omega)).trans (od_get HK.out 2 (by omega)); clear hc8)
      | ((with_reducible refine atSlot 52 ?_); refine wpList_of_wp rfl (owp_appB (w0 := w) (o := ⟨some 52, _, _, _, _, _⟩) _ _ rfl Try.elB rfl ho7 rfl (HKD.out _ hx7) (by omega) hx7 ?_); intro a9 c9 w9 ho9 hx9 hk9; clear hk9 hd8)
      | fail)
    go_roundw
    case rel =>
      refine ⟨j + 1, _, _, _, by go_num, rfl, by have := HLN.out; omega, ?_, hx9⟩
      rw [HTS.out, appD_append, appD_one, HAPP.out, ← List.append_assoc]
      exact ho9
    case measure => simp [intOf]; omega
end Go.Proofs.Ytkhjeeaojlaagaa
