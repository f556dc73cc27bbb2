/-
  The program's Encode.
-/
import Derived.Test.YtncdcpaelecikaaPackF
namespace Go.Proofs.Ytncdcpaelecikaa
open Go.RowKit

theorem PutUint_at {V : Int} (v : Nat) (w : World) (hV : V = v) (hv : (v : Int) ≤ 18446744073709551615) : Calls Try.prog 33 #[.slice none 0 0, .int .u64 V] w (NewBytes w (enc v)) := by
  subst hV
  have h := PutUint_any none 0 0 [] v w (Bytes.nil _) hv (by decide)
  rwa [List.nil_append] at h
def EncRel (w : World) (L : List Ck) (out _i _c idx : Value) (wr : World) : Prop :=
  ∃ (j j' m c : Nat) (a : Option Addr), idx = .int .i64 j ∧ out = .slice a m c ∧ j' ≤ j ∧ j ≤ L.length ∧ OwnF wr w.heap.size 5 1 a m c ((magicB ++ frames (L.take j')).map u8) ∧
    (j' = j ∨ 1048576 < m) ∧ errAt none L = errAt (prevOf L j) (L.drop j) ∧ Ext w wr

theorem cmp_less (x y : Ck) : decide (0 ≤ orI (cmpI x.s y.s) (cmpI x.z y.z)) = !lessB x y := by
  unfold lessB orI cmpI
  rw [Bool.eq_iff_iff]
  simp only [decide_eq_true_eq, Bool.not_eq_true', decide_eq_false_iff_not]
  repeat' split
  all_goals omega

set_option maxRecDepth 100000 in
set_option maxHeartbeats 4000000 in
theorem Encode_any (a : Option Addr) (n c : Nat) (L : List Ck) (w : World) (hL : Chunks w a n c L) (hn : n ≤ 1000000000000) (hT : (frames L).length ≤ 100000000000000) :
    Calls Try.prog 12 #[.slice a n c] w (EncPost w L) := by
  have HL := Lib.hid hL.1
  have hcv := Lib.run_convert_bytes_const w 28 5 #[.int .u8 83, .int .u8 89, .int .u8 80, .int .u8 75] 4 4 Try.underlying28 Try.underlying5
  go_enter Try.func12, Try.ntmps12
  go_wp2
  clear hcv
  go_loopw [4, 5, 6, 11] (EncRel w L) (fun _ _ _ i _ => n - (intOf i).toNat)
  case atStart => exact ⟨0, 0, 4, 4, _, rfl, rfl, by omega, by omega, .inr ⟨rfl, by simpa [magicB, frames, u8] using Row.newF w #[.int .u8 83, .int .u8 89, .int .u8 80, .int .u8 75] 5 4 1 (4, 5) rfl (by decide)⟩, .inl rfl, rfl, Ext.alloc' _ _⟩
  case round =>
    obtain ⟨j, j', m, d, q, rfl, rfl, hjj, hj, ho, hor, he, hx⟩ := hrel
    rename World => w1
    have hj' : j ≤ n := by have := HL.out; omega
    have HE := Lib.hid he
    clear he
    have hlm := ho.row.len
    simp only [List.length_map, List.length_append, Nat.mul_one] at hlm
    have hmag : magicB.length = 4 := rfl
    by_cases hjn : j < n
    · obtain ⟨k, hk⟩ : ∃ k, L[j]? = some k := ⟨_, List.getElem?_eq_getElem (by have := HL.out; omega)⟩
      have HK := Lib.hid hk
      have hc1 := hL.ext hx
      have hkw := (hL.2.2 k (List.mem_of_getElem? hk)).1
      obtain ⟨hkb, hkn, hks⟩ := hc1.2.2 k (List.mem_of_getElem? hk)
      have hr1 := hc1.2.1
      clear hk hc1
      by_cases hright : rightB k.s k.z k.l = true
      · have HR := Lib.hid hright
        clear hright
        have hfl := frames_len_take L j'
        have hkz : 0 ≤ k.z ∧ k.z.toNat ≤ 8192 ∧ 1 ≤ k.l.length ∧ k.l.length ≤ 8192 := by
          have h := HR.out
          simp only [rightB, Bool.and_eq_true, decide_eq_true_eq] at h
          omega
        obtain ⟨hkz0, hkz, hkl1, hkl⟩ := hkz
        have hkL : k.l.length = k.n := hkw.len
        have hfb := frameB_len k.s k.z.toNat k.l hks hkz
        by_cases hj0 : j = 0
        focus
          have hd0 : decide (0 < j) = false := by simp; omega
          have hbh : behindB (prevOf L j) k = true := by rw [hj0]; rfl
          have HB := Lib.hid hbh
          clear hbh hj0
          go_wp2_with (first
            | (refine wpList_ix rfl (.tmp 9) (.tmp 11) rfl Try.elC rfl hr1 j rfl rfl hjn ?_; intro b o hc; have hrg := range_get HK.out hc)
            | (refine wpList_load_mid rfl 46 (.tmp 14) rfl b o rfl k.cells _ hrg Try.underlying46 rfl (by kernel_rfl) ?_; simp only [Ck.cells])
            | (go_at_call 31; (with_reducible refine (right_any k.s k.z k.a k.n k.c k.l _ (hkb.ext (Ext.alloc' _ _)) hkn).mono ?_); rw [HR.out]; rintro e w2 ⟨rfl, hx2⟩))
          have hbox : w2.drew.heap[w1.heap.size]? = some (.cells #[.int .u64 k.s, .int .i64 k.z, .slice k.a k.n k.c] 46) := hx2.heap' (heap_alloc_new w1 _)
          refine wp_region_x [(0, false), (1, false), (2, false), (3, false), (4, false), (5, false), (6, false), (7, false), (8, false), (9, false), (10, false), (11, true), (12, false), (13, false)] (by kernel_rfl) (by kernel_rfl) ?_
          iterate 11 (first | ((refine wpX_q rfl rfl _ (fun w' hx' => by go_simp; try rfl) ?_; go_simp)) | ((refine wpX_skip rfl rfl ?_; go_simp)))
          refine wpX_lskip rfl rfl ?_
          go_simp
          iterate 2 (first | ((refine wpX_q rfl rfl _ (fun w' hx' => by go_simp; try rfl) ?_; go_simp)) | ((refine wpX_skip rfl rfl ?_; go_simp)))
          refine wpX_nil ?_
          have ho5 := ((ho.ext (Ext.alloc' _ _)).ext hx2).ext (Ext.drew' _)
          have hx5 : Ext w w2.drew := ((hx.trans' (Ext.alloc' _ _)).trans' hx2).trans' (Ext.drew' _)
          clear hx2 hd0
          generalize w2.drew = w5 at ho5 hx5 hbox ⊢
        rotate_left
        focus
          obtain ⟨k0, hk0⟩ : ∃ k0, L[j - 1]? = some k0 := ⟨_, List.getElem?_eq_getElem (by have := HL.out; omega)⟩
          have HK0 := Lib.hid hk0
          clear hk0
          have hj1 : 0 < j := by omega
          have hprev : prevOf L j = some k0 := by unfold prevOf; rw [if_neg hj0]; exact HK0.out
          have HP := Lib.hid hprev
          clear hprev
          go_wp2_with (first
            | (refine wpList_ix rfl (.tmp 9) (.tmp 11) rfl Try.elC rfl hr1 j rfl rfl hjn ?_; intro b o hc; have hrg := range_get HK.out hc)
            | (refine wpList_load_mid rfl 46 (.tmp 14) rfl b o rfl k.cells _ hrg Try.underlying46 rfl (by kernel_rfl) ?_; simp only [Ck.cells])
            | (go_at_call 31; (with_reducible refine (right_any k.s k.z k.a k.n k.c k.l _ (hkb.ext (Ext.alloc' _ _)) hkn).mono ?_); rw [HR.out]; rintro e w2 ⟨rfl, hx2⟩))
          have hbox : w2.drew.heap[w1.heap.size]? = some (.cells #[.int .u64 k.s, .int .i64 k.z, .slice k.a k.n k.c] 46) := hx2.heap' (heap_alloc_new w1 _)
          refine wp_region_x [(0, false), (1, false), (2, false), (3, false), (4, false), (5, false), (6, false), (7, false), (8, false), (9, false), (10, false), (11, true), (12, false), (13, false)] (by kernel_rfl) (by kernel_rfl) ?_
          have hr4 := ((hr1.ext (Ext.alloc' _ _)).ext hx2).ext (Ext.drew' _)
          have hA0 : ∀ w' j, Ext w2.drew w' → w'.cell? ⟨w1.heap.size, j, none⟩ = #[.int .u64 k.s, .int .i64 k.z, .slice k.a k.n k.c][j]? := fun w' j hx => cell_of_row _ _ _ _ _ _ (hx.heap' hbox)
          iterate 6 ((refine wpX_q rfl rfl _ (fun w' hx' => by go_simp; try rfl) ?_; go_simp))
          refine wpX_ix rfl rfl (.tmp 22) (.tmp 24) rfl Try.elC rfl hr4 (j - 1) rfl (by rw [IntKind.wrap_i64]; omega) (by omega) ?_
          intro b6 o6 hc6
          have hi6 := range_id HK0.out hc6
          ((refine wpX_q rfl rfl _ (fun w' hx' => by go_simp; try rfl) ?_; go_simp))
          refine wpX_ld rfl rfl (.tmp 26) rfl b6 o6 rfl [.int .u64 k0.s, .int .i64 k0.z] _ hi6 Try.underlying44 rfl (by kernel_rfl) ?_
          ((refine wpX_q rfl rfl _ (fun w' hx' => by go_simp; try rfl) ?_; go_simp))
          refine wpX_ld rfl rfl (.tmp 28) rfl w1.heap.size 0 rfl [.int .u64 k.s, .int .i64 k.z] _ (fun w' hx j v hj => by
            have hlt : j < 2 := (List.getElem?_eq_some_iff.1 hj).1
            rw [Nat.zero_add, hA0 w' j hx]
            rcases j with _ | _ | j
            · exact hj
            · exact hj
            · omega) Try.underlying44 rfl (by kernel_rfl) ?_
          refine wpX_l rfl rfl ?_
          go_simp
          refine (compareIDs_any k0.s k.s k0.z k.z _).mono ?_
          rintro e w5 ⟨rfl, hx5⟩
          refine ⟨hx5, ?_⟩
          have ecl := cmp_less k0 k
          by_cases hless : lessB k0 k = true
          rotate_left
          · have hless' := Bool.eq_false_iff.2 hless
            rw [hless', Bool.not_false] at ecl
            have HS := Lib.hid hless'
            clear hless hless'
            go_simp
            iterate 2 (first | ((refine wpX_q rfl rfl _ (fun w' hx' => by go_simp; try rfl) ?_; go_simp)) | ((refine wpX_skip rfl rfl ?_; go_simp)))
            refine wpX_nil ?_
            have e291 : errAt none L = 291 := by rw [HE.out, errAt_drop HK.out, HR.out, HP.out]; simp only [behindB, HS.out]; rfl
            go_wp2
            go_ret2
            exact EncPost.err e291 (by decide) ((((hx.trans' (Ext.alloc' _ _)).trans' hx2).trans' (Ext.drew' _)).trans' hx5)
          rw [hless, Bool.not_true] at ecl
          have hbh : behindB (prevOf L j) k = true := by rw [HP.out]; exact hless
          have HB := Lib.hid hbh
          clear hbh hless hj0
          go_simp
          iterate 2 (first | ((refine wpX_q rfl rfl _ (fun w' hx' => by go_simp; try rfl) ?_; go_simp)) | ((refine wpX_skip rfl rfl ?_; go_simp)))
          refine wpX_nil ?_
          have ho5 := (((ho.ext (Ext.alloc' _ _)).ext hx2).ext (Ext.drew' _)).ext hx5
          replace hbox := hx5.heap' hbox
          replace hx5 : Ext w w5 := (((hx.trans' (Ext.alloc' _ _)).trans' hx2).trans' (Ext.drew' _)).trans' hx5
          clear hx2 hA0 hr4 ecl HP HK0 hj1 hi6 hc6
        all_goals
          by_cases hbig : 1048576 < m
          · go_wp2
            go_roundw
            case rel => exact ⟨j + 1, j', m, d, q, by go_num, rfl, by omega, by have := HL.out; omega, ho5, .inr hbig, by rw [HE.out, errAt_drop HK.out, prevOf_succ, HK.out, HR.out, HB.out]; rfl, hx5⟩
            case measure => simp [intOf]; omega
          · obtain rfl : j = j' := by omega
            have hq1 := enc_le10 (v := k.z.toNat) (by omega)
            have hq2 := enc_le10 (v := k.s) (by omega)
            have hp1 := enc_pos k.z.toNat
            have hp2 := enc_pos k.s
            have t1 : True := trivial
            go_wp2_with (first
              | (at_builtin; refine wpList_appK (o := ⟨some 38, _, _, _, _, _⟩) rfl _ _ rfl Try.elB rfl (ho5.ext (Ext.alloc' _ _)) rfl (Row.one _ _ _) (by intro u hu; simp at hu; subst hu; rfl) (by omega) (by omega) (by unfold maxLen; omega) (hx5.trans' (Ext.alloc' _ _)).size ?_; intro a6 c6 w6 ho6 hb6 hk6; have hx6 : Ext w w6 := (hx5.trans' (Ext.alloc' _ _)).trans hb6; have hbox6 := hk6 _ _ _ _ (by decide) ((Ext.alloc' _ _).heap' hbox); have hcb6 := fun j => cell_of_row w6 _ j _ _ _ hbox6)
              | (go_at_call 33; have _t := t1; (with_reducible refine (PutUint_at k.z.toNat _ (by omega) (by omega)).mono ?_); rintro e w7 ⟨a7, n7, c7, rfl, ho7, hx7⟩; clear t1; have hl7 := own_len ho7; have hx67 := hx6.trans' hx7)
              | (at_builtin; refine wpList_appK (o := ⟨some 45, _, _, _, _, _⟩) rfl _ _ rfl Try.elB rfl (.inl (own_ext ho6 hx7)) rfl (Row.of_own ho7) (u8_oneCell _) (by omega) (by omega) (by unfold maxLen; omega) hx67.size ?_; intro a8 c8 w8 ho8 hb8 hk8; have hx8 : Ext w w8 := hx67.trans hb8; have hbox8 := hk8 _ _ _ _ (by decide) (hx7.heap' hbox6); have hcb8 := fun j => cell_of_row w8 _ j _ _ _ hbox8)
              | (go_at_call 33; (with_reducible refine (PutUint_at k.s _ rfl hks).mono ?_); rintro e w9 ⟨a9, n9, c9, rfl, ho9, hx9⟩; have hl9 := own_len ho9; have hx89 := hx8.trans' hx9)
              | (at_builtin; refine wpList_appK (o := ⟨some 51, _, _, _, _, _⟩) rfl _ _ rfl Try.elB rfl (.inl (own_ext ho8 hx9)) rfl (Row.of_own ho9) (u8_oneCell _) (by omega) (by omega) (by unfold maxLen; omega) hx89.size ?_; intro a10 c10 w10 ho10 hb10 hk10; have hx10 : Ext w w10 := hx89.trans hb10; have hbox10 := hk10 _ _ _ _ (by decide) (hx9.heap' hbox8); have hcb10 := fun j => cell_of_row w10 _ j _ _ _ hbox10)
              | (at_builtin; refine wpList_appK (o := ⟨some 55, _, _, _, _, _⟩) rfl _ _ rfl Try.elB rfl (.inl ho10) rfl (hkw.ext hx10).row (u8_oneCell _) (by omega) (by omega) (by unfold maxLen; omega) hx10.size ?_; intro a11 c11 w11 ho11 hb11 hk11; have hx11 : Ext w w11 := hx10.trans hb11))
            go_roundw
            case rel => exact ⟨j + 1, j + 1, _, c11, a11, by go_num, rfl, by omega, by have := HL.out; omega, .inl (by have e : (magicB ++ frames (L.take (j + 1))).map u8 = (magicB ++ frames (L.take j)).map u8 ++ [Value.int .u8 1] ++ (enc k.z.toNat).map u8 ++ (enc k.s).map u8 ++ k.l.map u8 := (by rw [frames_take HK.out]; simp [frameB, u8]); rw [e]; exact ho11), .inl rfl, by rw [HE.out, errAt_drop HK.out, prevOf_succ, HK.out, HR.out, HB.out]; rfl, hx11⟩
            case measure => simp [intOf]; omega
      · have hright' := Bool.eq_false_iff.2 hright
        have HR := Lib.hid hright'
        clear hright hright'
        go_wp2_with (first
          | (refine wpList_ix rfl (.tmp 9) (.tmp 11) rfl Try.elC rfl hr1 j rfl rfl hjn ?_; intro b o hc; have hrg := range_get HK.out hc)
          | (refine wpList_load_mid rfl 46 (.tmp 14) rfl b o rfl k.cells _ hrg Try.underlying46 rfl (by kernel_rfl) ?_; simp only [Ck.cells])
          | (go_at_call 31; (with_reducible refine (right_any k.s k.z k.a k.n k.c k.l _ (hkb.ext (Ext.alloc' _ _)) hkn).mono ?_); rw [HR.out]; rintro e w2 ⟨rfl, hx2⟩))
        have e290 : errAt none L = 290 := by rw [HE.out, errAt_drop HK.out, HR.out]; rfl
        go_ret2
        exact EncPost.err e290 (by decide) ((hx.trans' (Ext.alloc' _ _)).trans' hx2)
    · obtain rfl : j = n := by omega
      have hfl := frames_len_take L j'
      have e0 : errAt none L = 0 := by rw [HE.out, List.drop_of_length_le (by have := HL.out; omega)]; rfl
      have E0 := Lib.hid e0
      obtain ⟨X, hX⟩ : ∃ X, X = magicB ++ frames (L.take j') := ⟨_, rfl⟩
      have hXl : X.length = m := by rw [hX, List.length_append]; exact hlm
      have hX1 : m ≤ 100000000000004 := by omega
      have hX2 : 1048576 < m → 1048576 < (packB L).length := by
        intro h; have : (frames (L.take j')).length ≤ (frames L).length := hfl; simp only [packB, bodyB, List.length_append]; omega
      obtain ⟨Y, hY⟩ : ∃ Y, Y = X ++ [0] ++ enc j := ⟨_, rfl⟩
      have hX3 : j' = j → Y = bodyB L := by
        intro h; rw [hY, hX, h, List.take_of_length_le (by have := HL.out; omega), bodyB, HL.out]
      rw [← hX] at ho
      have HX2 := Lib.hid hX2
      have HX3 := Lib.hid hX3
      have HXl := Lib.hid hXl
      have eb : (X.map u8 ++ [Value.int .u8 0]) ++ (enc j).map u8 = Y.map u8 := by rw [hY]; simp [u8]
      have hor' := Lib.hid hor
      clear hY hX hX2 hX3 hXl e0 hor hlm hfl HE
      have hp1 := enc_pos j
      have hq1 := enc_le10 (v := j) (by omega)
      have hfp := fp_lt Y
      have hp2 := enc_pos (fp Y)
      have hq2 := enc_le10 (v := fp Y) (by omega)
      have t1 : True := trivial
      go_wp2_with (first
          | (at_builtin; refine wpList_appF (o := ⟨some 59, _, _, _, _, _⟩) rfl _ _ rfl Try.elB rfl (ho.ext (Ext.alloc' _ _)) rfl (Row.one _ _ _) (by intro u hu; simp at hu; subst hu; rfl) (by omega) (by omega) (by unfold maxLen; omega) (by have := hx.size; simp; omega) ?_; intro a2 c2 w2 ho2 hb2; have hxa : Ext w w2 := (hx.trans' (Ext.alloc' _ _)).trans hb2)
          | (go_at_call 33; have _t := t1; (with_reducible refine (PutUint_at j _ rfl (by omega)).mono ?_); rintro e w3 ⟨a3, n3, c3, rfl, ho3, hx3⟩; clear t1; have hl3 := own_len ho3; have hxb := hxa.trans' hx3)
          | (at_builtin; refine wpList_appF (o := ⟨some 65, _, _, _, _, _⟩) rfl _ _ rfl Try.elB rfl (.inl (own_ext ho2 hx3)) rfl (Row.of_own ho3) (u8_oneCell _) (by omega) (by omega) (by unfold maxLen; omega) hxb.size ?_; intro a4 c4 w4 ho4 hb4; have hxc : Ext w w4 := hxb.trans hb4; rw [eb] at ho4; have hy4 := Bytes.of_own ho4)
          | (go_at_call 34; (with_reducible refine (Sum_any a4 _ c4 Y _ hy4 (by omega)).mono ?_); rintro e w6 ⟨rfl, rfl⟩)
          | (go_at_call 33; (with_reducible refine (PutUint_at (fp Y) _ rfl (by omega)).mono ?_); rintro e w7 ⟨a7, n7, c7, rfl, ho7, hx7⟩; have hl7 := own_len ho7; have hxe := hxc.trans' hx7)
          | (at_builtin; refine wpList_appF (o := ⟨some 70, _, _, _, _, _⟩) rfl _ _ rfl Try.elB rfl (.inl (own_ext ho4 hx7)) rfl (Row.of_own ho7) (u8_oneCell _) (by omega) (by omega) (by unfold maxLen; omega) hxe.size ?_; intro a8 c8 w8 ho8 hb8; have hxf : Ext w w8 := hxe.trans hb8; rw [← List.map_append] at ho8; have hl8 := own_len ho8))
      · go_ret2
        rcases hor'.out with h | h
        · rw [HX3.out h] at hl8
          exact EncPost.big E0.out hl8 (by omega) hxf
        · exact EncPost.big E0.out rfl (HX2.out h) hxf
      · have h : j' = j := by
          rcases hor'.out with h | h
          · exact h
          · omega
        rw [HX3.out h] at hl8 ho8
        go_ret2
        exact EncPost.ok E0.out hl8 (by omega) ho8 hxf
end Go.Proofs.Ytncdcpaelecikaa
