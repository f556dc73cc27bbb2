/-
  The law CacheTrue.
-/
import Derived.Test.YtpiodpljiklfkaaCacPl
import Derived.Test.YtpiodpljiklfkaaCacBo
namespace Go.Proofs.Ytpiodpljiklfkaa
open Go.RowKit

def TrRel (w : World) (B c room : Nat) (E : List En) (n : Nat) (ja : Option Addr) (jc : Nat) (i : Value) (wr : World) : Prop :=
  ∃ (j B1 : Nat) (F : List Nat), i = .int .i64 j ∧ j ≤ n ∧ Cac wr B1 c room (E.drop j ++ E.take j) F ∧ (∀ q ∈ F, w.heap.size ≤ q) ∧ Ext w wr ∧ wr.ownsRow B 45 2 (.slice ja n jc) n ((E.map En.id).flatMap idCells)
def RoRel (w : World) (c room : Nat) (E : List En) (n : Nat) (i : Value) (wr : World) : Prop :=
  ∃ (j B1 : Nat) (F : List Nat), i = .int .i64 j ∧ j ≤ n ∧ Cac wr B1 c room (E.drop j ++ E.take j) F ∧ (∀ q ∈ F, w.heap.size ≤ q) ∧ Ext w wr
def IdRow (wr : World) (B : Nat) (a : Option Addr) (n c : Nat) (K : List (Nat × Int)) : Prop := wr.ownsRow B 45 2 (.slice a n c) n (K.flatMap idCells)
theorem bytes_low {w w' : World} {F : List Nat} {a : Option Addr} {n c : Nat} {l : List UInt8} {B : Nat} (h : Bytes w a n c l) (hc : Chg F w w') (ha : ∀ p, a = some p → 0 < n → p.block < B) (hF : ∀ k ∈ F, B ≤ k) (hB : B ≤ w.heap.size) : Bytes w' a n c l := ⟨h.len, h.row.below1 (hc.below hF hB) ha⟩

set_option maxRecDepth 100000 in
set_option maxHeartbeats 8000000 in
theorem CacheTrue_walk (a1 : Option Addr) (n1 c1 : Nat) (L1 : List Int) (s : Nat) (z : Int) (a2 : Option Addr) (n2 c2 : Nat) (L2 : List UInt8) (w : World)
    (hl : Row w a1 n1 c1 1 (L1.map (Value.int .i64))) (hli : ∀ x ∈ L1, -9223372036854775808 ≤ x ∧ x ≤ 9223372036854775807) (ha1 : ∀ p, a1 = some p → 0 < n1 → p.block < w.heap.size)
    (hrb : Bytes w a2 n2 c2 L2) (hn2' : n2 ≤ 140737488351232) :
    Calls Try.prog 6 #[.slice a1 n1 c1, .agg #[.int .u64 s, .int .i64 z], .slice a2 n2 c2] w (LawPost w) := by
  obtain ⟨w0, hw0⟩ : ∃ w0, w0 = w.alloc (.cells #[.int .u64 s, .int .i64 z] 45) := ⟨_, rfl⟩
  have hx0 : Ext w w0 := by rw [hw0]; exact Ext.alloc' _ _
  have hh0 : IdBox w0 w.heap.size s z := by rw [hw0]; exact heap_alloc_new w _
  have HX0 := Lib.hid hx0
  have HH0 := Lib.hid hh0
  have HW0 := Lib.hid hw0
  have HZ0 := Lib.hid (show w0.heap.size = w.heap.size + 1 by rw [hw0, World.size_alloc])
  have HRB := Lib.hid (hrb.ext hx0)
  have hn2l := hrb.len
  have HLB := Lib.hid (show ∀ p, a2 = some p → 0 < n2 → p.block < w0.heap.size from fun p hp h0 => Nat.lt_of_lt_of_le (row_low hrb.row h0 (by decide) p hp) hx0.size)
  have hn2 : n2 ≤ 140737488355328 := Nat.le_trans hn2' (by decide)
  clear hh0 hw0 hrb hn2'
  have ht : Tape (w0.alloc (.cells #[.slice a1 n1 c1, .int .i64 0] 39)) w0.heap.size 0 :=
    ⟨a1, n1, c1, L1, heap_alloc_new w0 _, (hl.ext hx0).ext (Ext.alloc' _ _), (fun p hp hn => Nat.lt_of_lt_of_le (ha1 p hp hn) hx0.size), hli⟩
  have hx1 : Ext w0 (w0.alloc (.cells #[.slice a1 n1 c1, .int .i64 0] 39)) := Ext.alloc' _ _
  have HT := Lib.hid ht
  have HX1 := Lib.hid hx1
  clear ht hx1 hl hli ha1 hx0
  go_enter Try.func6, Try.ntmps6
  go_upto_region 2 with fail
  rw [← HW0.out, ← HZ0.out]
  obtain ⟨g, hge⟩ : ∃ g, g = w0.heap.size := ⟨_, rfl⟩
  rw [← hge] at HT ⊢
  have HGE := Lib.hid hge
  generalize w0.alloc (.cells #[.slice a1 n1 c1, .int .i64 0] 39) = w1 at HT HX1 ⊢
  have hgz : w0.heap.size ≤ g := Nat.le_of_eq hge.symm
  clear hge
  have HLV := Lib.hid (show Calls Try.prog 27 #[.pointer (some ⟨g, 0, none⟩), .int .i64 12] w1 (LivO w1 g 0) from lived38_any g 0 12 w1 HT.out (by omega) (by omega))
  go_upto_region 3 with (first
    | (go_at_call 27; (with_reducible refine HLV.out.mono ?_); rintro en w2 ⟨c, room, a, n, cp, E, F, k2, rfl, hD2, hr1, hr14, hk2, hg2, hF2⟩; have HD2 := Lib.hid hD2; have HX2 := Lib.hid (show Ext w0 w2 from HX1.out.grown hg2 HX1.out.size (fun q hq => by cases hq; exact hgz)); have HF2 := Lib.hid (show ∀ q ∈ F, w0.heap.size ≤ q from fun q hq => Nat.le_trans HX1.out.size (hF2 q hq)); clear hD2 hg2 hF2; have HP := Lib.hid (put_new w2 #[.int .i64 0, .slice none 0 0] #[.int .i64 room, .slice a n cp] 28); have HN := Lib.hid (heap_alloc_new w2 (.cells #[.int .i64 0, .slice none 0 0] 28)))
    | ((with_reducible refine atStore 9 ?_); refine wpList_of_wp rfl (wp_store_row (o := ⟨none, _, _, _, _, _⟩) _ _ _ rfl w2.heap.size #[.int .i64 room, .slice a n cp] rfl rfl _ _ HN.out (by kernel_rfl) rfl (by simp [Value.oneCell']) ?_))
    | fail)
  obtain ⟨hx3, hh3⟩ := HP.out
  obtain ⟨b5, hb5⟩ : ∃ b5, b5 = w2.heap.size := ⟨_, rfl⟩
  generalize (w2.alloc (.cells #[.int .i64 0, .slice none 0 0] 28)).setRow w2.heap.size #[.int .i64 room, .slice a n cp] = w3 at hx3 hh3 ⊢
  rw [← hb5] at hh3 ⊢
  have hgb : g < b5 := by rw [hb5]; exact HD2.out.tape.lt
  have HD3 := Lib.hid (HD2.out.ext hx3)
  have HX3 := Lib.hid (HX2.out.trans' hx3)
  have HB3 := Lib.hid (show RcB w3 b5 room a n cp from hh3)
  have HF3 := HF2
  clear hx3 hh3 hb5 HP HN HLV HD2 HX2 HX1 HT
  have HKN := Lib.hid (known38_any w3)
  go_upto_region 5 with (first
    | (go_at_call 14; (with_reducible refine HKN.out.mono ?_); rintro en w4 ⟨rfl, hx4'⟩; have hx4 : Ext w3 w4 := hx4'; clear hx4'; have HD4 := Lib.hid (HD3.out.ext hx4); have HX4 := Lib.hid (HX3.out.trans' hx4); have HB4 := Lib.hid (show RcB w4 b5 room a n cp from hx4.heap' HB3.out); clear hx4)
    | fail)
  obtain ⟨B1, B2, L, -, -, -, -, hC4, -, -, -⟩ := HD4.out
  have hi4 : IdBox w4 w.heap.size s z := HX4.out.heap' HH0.out
  have HI4 := Lib.hid hi4
  have HC4 := Lib.hid hC4
  have HOK := Lib.hid hC4.ok
  have hcnt := hC4.ok.1.count
  have HIC := Lib.hid (IDs_any B1 c room E F w4 hC4)
  clear hC4 hi4 HD3 HX3 HB3 HKN HD4 HB4 HF2 HH0
  go_upto_region 6 with (first
    | (go_at_call 16; (with_reducible refine HIC.out.mono ?_); rintro en w5 ⟨ia, im, ic, rfl, him, hio, hx5⟩; have HIM := Lib.hid him; clear him)
    | fail)
  have HIO := Lib.hid hio
  have HX5 := Lib.hid (show Ext w0 w5 from HX4.out.trans' hx5)
  have HC5 := Lib.hid (HC4.out.ext hx5)
  have HI5 := Lib.hid (HI4.out.ext hx5)
  have hb5 := HRB.out.ext HX5.out
  have HPU := Lib.hid (Put38_any B1 c room E F s z a2 n2 c2 L2 w5 HC5.out (fun w' hc => bytes_low hb5 hc HLB.out HF3.out HX5.out.size) hn2)
  have hrd := HI5.out.rd
  obtain ⟨r, hr⟩ : ∃ r, r = putC room E (s, z) L2 := ⟨_, rfl⟩
  rw [← hr] at HPU
  have HRE := Lib.hid hr
  have hT5 := HC5.out.typed
  have HT5 := Lib.hid hT5
  clear hio hx5 hb5 hr hT5 HIC HC4 HX4 HI4
  go_upto_region 7 with (first
    | ((with_reducible refine atSlot 37 ?_); refine wpList_of_wp rfl (wp_load_mid (op := ⟨some 37, _, _, _, _, _⟩) 45 _ rfl w.heap.size 0 rfl [.int .u64 s, .int .i64 z] _ hrd Try.underlying45 rfl (by kernel_rfl) ?_); clear hrd)
    | (go_at_call 21; (with_reducible refine HPU.out.mono ?_); rintro en w6 ⟨ga, gn, gc, rfl, -, -, F6, hC6, hc6, hF6⟩)
    | fail)
  have HC6 := Lib.hid hC6
  have HI6 := Lib.hid (HI5.out.chg hc6 HT5.out)
  have HIO6 := Lib.hid (own_chg HIO.out hc6 HT5.out (by decide) (by decide))
  have HB6 := Lib.hid (bytes_low (HRB.out.ext HX5.out) hc6 HLB.out HF3.out HX5.out.size)
  have HX6 := Lib.hid (show Ext w0 w6 from ext_chg HX5.out hc6 HF3.out)
  have HFG := Lib.hid (show ∀ q ∈ F6, w0.heap.size ≤ q from fun q hq => by
    rcases hF6 q hq with h | h
    · exact HF3.out q h
    · exact Nat.le_trans HX5.out.size h)
  have HOK6 := Lib.hid hC6.ok
  have hcnt6 := hC6.ok.1.count
  have HID6 := Lib.hid (fun w' (h : Ext w6 w') => IDs_any B1 c room r.1 F6 w' (hC6.ext h))
  have HIL := Lib.hid (show E.length = im by have h := HIM.out; rw [List.length_map] at h; exact h.symm)
  clear hC6 hc6 hF6 HPU HC5 HIO HI5 HX5 HT5 HIM
  have HRD6 := Lib.hid fun w' (h : Ext w6 w') => (HI6.out.ext h).rd
  have E6 := Ext.drew' w6
  by_cases he : idOf L2 = (s, z)
  · have h3 : ((fp L2 : Int) == (s : Int)) = true := by have h := congrArg Prod.fst he; simp only [idOf] at h; simp [h]
    have h4 : ((n2 : Int) == z) = true := by have h := congrArg Prod.snd he; simp only [idOf, hn2l] at h; simp [h]
    have HRS := Lib.hid (show r.2.2 = r.2.2 from rfl)
    clear he
    refine wp_region_e [] (.qs [0, 2] (.l 1 (.qs [3, 4, 5, 6, 7, 8, 10] (.l 9 (.l 11 (.qs [12, 13, 14] .nil)))))) (by kernel_rfl) (by kernel_rfl) ?_
    ((refine wpY_q rfl rfl _ (fun w' hx' => by go_simp; try rfl) ?_; go_simp))
    refine wpY_ld rfl rfl (.tmp 4) rfl w.heap.size 0 rfl [.int .u64 s, .int .i64 z] _ HRD6.out Try.underlying45 rfl (by kernel_rfl) ?_
    refine wpY_l rfl rfl ?_
    go_simp
    refine (Of_any a2 n2 c2 L2 _ (HB6.out.ext E6) hn2).mono ?_
    rintro en w7 ⟨rfl, hx7⟩
    have E7 := E6.trans' hx7
    refine ⟨E7, ?_⟩
    go_simp
    iterate 7 (first | ((refine wpY_q rfl rfl _ (fun w' hx' => by go_simp; try rfl) ?_; go_simp)) | ((refine wpY_skip rfl rfl ?_; go_simp)))
    refine wpY_lskip rfl rfl ?_
    refine wpY_lskip rfl rfl ?_
    go_simp
    iterate 3 (first | ((refine wpY_q rfl rfl _ (fun w' hx' => by go_simp; try rfl) ?_; go_simp)) | ((refine wpY_skip rfl rfl ?_; go_simp)))
    refine wpY_nil ?_
    have HE7 := Lib.hid E7
    clear hx7 E7 E6 h3 h4
    have HID7 := Lib.hid (HID6.out w7 HE7.out)
    clear HID6 HRD6 HIO6
    go_wp2_with (first
      | (go_at_call 16; (with_reducible refine HID7.out.mono ?_); rintro en wa ⟨ja, jm, jc, rfl, hjm, hjo, hxa⟩; have HJM := Lib.hid hjm; have HJO := Lib.hid hjo; have HXA := Lib.hid hxa; clear hjm hjo hxa)
      | fail)
    have HJL := Lib.hid (show r.1.length = jm by have h := HJM.out; rw [List.length_map] at h; exact h.symm)
    have hjm5 : jm ≤ 1048576 := by have h1 := HJL.out; have h2 := HOK6.out.2; omega
    have HCA := Lib.hid (HC6.out.ext (HE7.out.trans' HXA.out))
    have HX0A := Lib.hid (show Ext w0 wa from HX6.out.trans' (HE7.out.trans' HXA.out))
    go_loopw [15] (TrRel w0 w7.heap.size c room r.1 jm ja jc) (fun i _ => jm - (intOf i).toNat)
    case atStart => exact ⟨0, B1, F6, rfl, Nat.zero_le _, by rw [List.drop_zero, List.take_zero, List.append_nil]; exact HCA.out, HFG.out, HX0A.out, HJO.out⟩
    case round =>
      obtain ⟨j, Bj, Fj, rfl, hj, hCj, hFj, hXj, hRj⟩ := hrel
      rename World => wb
      have HCJ := Lib.hid hCj
      have HFJ := Lib.hid hFj
      have HXJ := Lib.hid hXj
      have HRJ := Lib.hid hRj
      have HTJ := Lib.hid hCj.typed
      clear hCj hFj hXj hRj
      by_cases hjn : j < jm
      · obtain ⟨kk, hkk⟩ : ∃ kk, (r.1.map En.id)[j]? = some kk := ⟨_, List.getElem?_eq_getElem (by have := HJL.out; rw [List.length_map]; omega)⟩
        obtain ⟨x, hx, hxi, -, -⟩ := ids_at HOK6.out.1.apart hkk
        have hsm := ids_small HOK6.out.1 HOK6.out.2 (List.mem_of_getElem? hkk)
        have hxr := HOK6.out.1.right x (List.mem_of_getElem? hx)
        have hgt := Get_any Bj c room _ Fj kk.1 kk.2 wb HCJ.out hsm.1 (by omega)
        have hrot := rot_get hx
        rw [hxi] at hrot
        rw [show (kk.1, kk.2) = kk from rfl, hrot] at hgt
        have HGT := Lib.hid hgt
        have HKK := Lib.hid hkk
        have hxl : idOf x.l = kk := by rw [← hxr.1, hxi]
        have hx1 : fp x.l = kk.1 := congrArg Prod.fst hxl
        have hx2 : (x.l.length : Int) = kk.2 := congrArg Prod.snd hxl
        have h5 : ((fp x.l : Int) == (kk.1 : Int)) = true := by simp [hx1]
        have hrb := Row.of_own HRJ.out
        have hxs : x.l.length ≤ 1048576 := by omega
        clear hkk hxi hsm hxr hgt hrot hxl hx
        go_upto_region 14 with (first
          | ((with_reducible refine atSlot 69 ?_); refine wpList_of_wp rfl (owp_ix (o := ⟨some 69, _, _, _, _, _⟩) _ _ rfl Try.elId rfl hrb j rfl rfl hjn ?_); intro b3 o3 hc3; have hr3 := id_range HKK.out hc3; clear hc3 hrb)
          | ((with_reducible refine atSlot 70 ?_); refine wpList_of_wp rfl (wp_load_mid (op := ⟨some 70, _, _, _, _, _⟩) 45 _ rfl b3 o3 rfl [.int .u64 kk.1, .int .i64 kk.2] _ hr3 Try.underlying45 rfl (by kernel_rfl) ?_); clear hr3)
          | (go_at_call 20; (with_reducible refine HGT.out.mono ?_); rintro en wc ⟨ya, yn, yc, rfl, hyo, Fc, hCc, hcc, hFc⟩; have HYO := Lib.hid hyo; have HCC := Lib.hid hCc; have HRC := Lib.hid (own_chg HRJ.out hcc HTJ.out (by decide) (by decide)); have HXC := Lib.hid (show Ext w0 wc from ext_chg HXJ.out hcc HFJ.out); have HFC := Lib.hid (show ∀ q ∈ Fc, w0.heap.size ≤ q from fun q hq => by (rcases hFc q hq with h | h); (exact HFJ.out q h); (exact Nat.le_trans HXJ.out.size h)); clear hyo hCc hcc hFc)
          | fail)
        have hyl := own_len HYO.out
        have h6 : ((yn : Int) == kk.2) = true := by simp; omega
        have HRR := Lib.hid fun w' (h : Ext wc w') => (Row.of_own HRC.out).ext h
        have EC := Ext.drew' wc
        clear HGT
        refine wp_region_e [] (.qs [0, 1, 2, 3, 5, 6, 7, 8] (.l 4 (.qs [9, 10] .nil))) (by kernel_rfl) (by kernel_rfl) ?_
        iterate 6 ((refine wpY_q rfl rfl _ (fun w' hx' => by go_simp; try rfl) ?_; go_simp))
        refine wpY_ix rfl rfl (.tmp 79) (.tmp 80) rfl Try.elId rfl HRR.out j rfl rfl hjn ?_
        intro b4 o4 hc4
        have HC4' := Lib.hid hc4
        clear hc4
        refine wpY_ld rfl rfl (.tmp 81) rfl b4 o4 rfl [.int .u64 kk.1, .int .i64 kk.2] _ (fun w' h => id_range HKK.out (fun q hq => HC4'.out q hq w' h)) Try.underlying45 rfl (by kernel_rfl) ?_
        refine wpY_l rfl rfl ?_
        go_simp
        refine (Of_any ya yn yc x.l _ (Bytes.of_own (own_ext HYO.out EC)) (by omega)).mono ?_
        rintro en wd ⟨rfl, hxd⟩
        have ED := EC.trans' hxd
        refine ⟨ED, ?_⟩
        go_simp
        iterate 2 ((refine wpY_q rfl rfl _ (fun w' hx' => by go_simp; try rfl) ?_; go_simp))
        refine wpY_nil ?_
        have HREL := Lib.hid (show _ ∧ _ ∧ _ from ⟨HCC.out.ext ED, HXC.out.trans' ED, own_ext HRC.out ED⟩)
        clear ED EC hxd h5 h6
        go_wp2
        go_roundw
        case rel => exact ⟨j + 1, Bj, Fc, by go_num, hjn, HREL.out.1, HFC.out, HREL.out.2.1, HREL.out.2.2⟩
        case measure => simp [intOf]; omega
      · obtain rfl : j = jm := by omega
        have hdt : r.1.drop j ++ r.1.take j = r.1 := by
          rw [List.drop_eq_nil_of_le (by have := HJL.out; omega), List.take_of_length_le (by have := HJL.out; omega), List.nil_append]
        have hCj := HCJ.out
        rw [hdt] at hCj
        have HIZ := Lib.hid (IDs_any Bj c room r.1 Fj wb hCj)
        clear hj hjn hCj hdt
        go_wp2_with (first
          | (go_at_call 16; (with_reducible refine HIZ.out.mono ?_); rintro en wc ⟨ka, km, kc, rfl, hkm, hko, hxc⟩; obtain rfl : km = j := (by rw [hkm, List.length_map, HJL.out]); have HSM := Lib.hid (SameIDs_any ka km kc ja jc (r.1.map En.id) wc (Row.of_own hko) (Row.of_own (own_ext HRJ.out hxc)) (by rw [List.length_map]; exact HJL.out) (by omega)); have HXC := Lib.hid (HXJ.out.trans' hxc); clear hkm hko hxc)
          | (go_at_call 26; (with_reducible refine HSM.out.mono ?_); rintro en wd ⟨rfl, hxd⟩; have HXD := Lib.hid (HXC.out.trans' hxd); clear hxd)
          | fail)
        go_ret
        exact ⟨rfl, HX0.out.trans' HXD.out⟩
  have hor := id_cmp (s := s) (z := z) (s' := fp L2) (z' := (n2 : Int)) (fun h => he (by rw [← hn2l] at h; exact h))
  have hrv : r = (E, [], 381) := by
    rw [HRE.out]
    unfold putC
    rw [if_pos (.inr he)]
  have HRV := Lib.hid hrv
  have hr2 : r.2.2 = 381 := by rw [hrv]
  have HR1 := Lib.hid (show r.1 = E by rw [hrv])
  rw [hr2]
  clear he hrv hr2
  rcases hor with h3 | ⟨h3, h4⟩
  · skip
    refine wp_region_e [] (.qs [0, 2] (.l 1 (.qs [3, 4, 5, 6, 7, 8, 10] (.l 9 (.l 11 (.qs [12, 13, 14] .nil)))))) (by kernel_rfl) (by kernel_rfl) ?_
    ((refine wpY_q rfl rfl _ (fun w' hx' => by go_simp; try rfl) ?_; go_simp))
    refine wpY_ld rfl rfl (.tmp 4) rfl w.heap.size 0 rfl [.int .u64 s, .int .i64 z] _ HRD6.out Try.underlying45 rfl (by kernel_rfl) ?_
    refine wpY_l rfl rfl ?_
    go_simp
    refine (Of_any a2 n2 c2 L2 _ (HB6.out.ext E6) hn2).mono ?_
    rintro en w7 ⟨rfl, hx7⟩
    have E7 := E6.trans' hx7
    refine ⟨E7, ?_⟩
    go_simp
    iterate 7 ((refine wpY_q rfl rfl _ (fun w' hx' => by go_simp; try rfl) ?_; go_simp))
    refine wpY_l rfl rfl ?_
    go_simp
    refine (HID6.out _ E7).mono ?_
    rintro en w8 ⟨ja, jm, jc, rfl, hjm, hjo, hx8⟩
    have E8 := E7.trans' hx8
    obtain rfl : jm = im := by rw [hjm, HR1.out, List.length_map, HIL.out]
    clear hjm
    refine ⟨E8, ?_⟩
    go_simp
    refine wpY_l rfl rfl ?_
    go_simp
    refine (SameIDs_any ja jm jc ia ic (E.map En.id) w8 (by have h := Row.of_own hjo; rwa [HR1.out] at h) (Row.of_own (own_ext HIO6.out E8)) (by rw [List.length_map]; exact HIL.out) (by have h1 := HIL.out; have h2 := HOK.out.2; omega)).mono ?_
    rintro en w9 ⟨rfl, hx9⟩
    have E9 := E8.trans' hx9
    refine ⟨E9, ?_⟩
    go_simp
    iterate 3 ((refine wpY_q rfl rfl _ (fun w' hx' => by go_simp; try rfl) ?_; go_simp))
    refine wpY_nil ?_
    have HE7 := Lib.hid E9
    clear hx7 hx8 hx9 E7 E8 E9 E6 h3 hjo
    rename World => w7
    have HID7 := Lib.hid (HID6.out w7 HE7.out)
    clear HID6 HRD6 HIO6
    go_wp2_with (first
      | (go_at_call 16; (with_reducible refine HID7.out.mono ?_); rintro en wa ⟨ja, jm, jc, rfl, hjm, hjo, hxa⟩; have HJM := Lib.hid hjm; have HJO := Lib.hid hjo; have HXA := Lib.hid hxa; clear hjm hjo hxa)
      | fail)
    have HJL := Lib.hid (show r.1.length = jm by have h := HJM.out; rw [List.length_map] at h; exact h.symm)
    have hjm5 : jm ≤ 1048576 := by have h1 := HJL.out; have h2 := HOK6.out.2; omega
    have HCA := Lib.hid (HC6.out.ext (HE7.out.trans' HXA.out))
    have HX0A := Lib.hid (show Ext w0 wa from HX6.out.trans' (HE7.out.trans' HXA.out))
    go_loopw [15] (TrRel w0 w7.heap.size c room r.1 jm ja jc) (fun i _ => jm - (intOf i).toNat)
    case atStart => exact ⟨0, B1, F6, rfl, Nat.zero_le _, by rw [List.drop_zero, List.take_zero, List.append_nil]; exact HCA.out, HFG.out, HX0A.out, HJO.out⟩
    case round =>
      obtain ⟨j, Bj, Fj, rfl, hj, hCj, hFj, hXj, hRj⟩ := hrel
      rename World => wb
      have HCJ := Lib.hid hCj
      have HFJ := Lib.hid hFj
      have HXJ := Lib.hid hXj
      have HRJ := Lib.hid hRj
      have HTJ := Lib.hid hCj.typed
      clear hCj hFj hXj hRj
      by_cases hjn : j < jm
      · obtain ⟨kk, hkk⟩ : ∃ kk, (r.1.map En.id)[j]? = some kk := ⟨_, List.getElem?_eq_getElem (by have := HJL.out; rw [List.length_map]; omega)⟩
        obtain ⟨x, hx, hxi, -, -⟩ := ids_at HOK6.out.1.apart hkk
        have hsm := ids_small HOK6.out.1 HOK6.out.2 (List.mem_of_getElem? hkk)
        have hxr := HOK6.out.1.right x (List.mem_of_getElem? hx)
        have hgt := Get_any Bj c room _ Fj kk.1 kk.2 wb HCJ.out hsm.1 (by omega)
        have hrot := rot_get hx
        rw [hxi] at hrot
        rw [show (kk.1, kk.2) = kk from rfl, hrot] at hgt
        have HGT := Lib.hid hgt
        have HKK := Lib.hid hkk
        have hxl : idOf x.l = kk := by rw [← hxr.1, hxi]
        have hx1 : fp x.l = kk.1 := congrArg Prod.fst hxl
        have hx2 : (x.l.length : Int) = kk.2 := congrArg Prod.snd hxl
        have h5 : ((fp x.l : Int) == (kk.1 : Int)) = true := by simp [hx1]
        have hrb := Row.of_own HRJ.out
        have hxs : x.l.length ≤ 1048576 := by omega
        clear hkk hxi hsm hxr hgt hrot hxl hx
        go_upto_region 14 with (first
          | ((with_reducible refine atSlot 69 ?_); refine wpList_of_wp rfl (owp_ix (o := ⟨some 69, _, _, _, _, _⟩) _ _ rfl Try.elId rfl hrb j rfl rfl hjn ?_); intro b3 o3 hc3; have hr3 := id_range HKK.out hc3; clear hc3 hrb)
          | ((with_reducible refine atSlot 70 ?_); refine wpList_of_wp rfl (wp_load_mid (op := ⟨some 70, _, _, _, _, _⟩) 45 _ rfl b3 o3 rfl [.int .u64 kk.1, .int .i64 kk.2] _ hr3 Try.underlying45 rfl (by kernel_rfl) ?_); clear hr3)
          | (go_at_call 20; (with_reducible refine HGT.out.mono ?_); rintro en wc ⟨ya, yn, yc, rfl, hyo, Fc, hCc, hcc, hFc⟩; have HYO := Lib.hid hyo; have HCC := Lib.hid hCc; have HRC := Lib.hid (own_chg HRJ.out hcc HTJ.out (by decide) (by decide)); have HXC := Lib.hid (show Ext w0 wc from ext_chg HXJ.out hcc HFJ.out); have HFC := Lib.hid (show ∀ q ∈ Fc, w0.heap.size ≤ q from fun q hq => by (rcases hFc q hq with h | h); (exact HFJ.out q h); (exact Nat.le_trans HXJ.out.size h)); clear hyo hCc hcc hFc)
          | fail)
        have hyl := own_len HYO.out
        have h6 : ((yn : Int) == kk.2) = true := by simp; omega
        have HRR := Lib.hid fun w' (h : Ext wc w') => (Row.of_own HRC.out).ext h
        have EC := Ext.drew' wc
        clear HGT
        refine wp_region_e [] (.qs [0, 1, 2, 3, 5, 6, 7, 8] (.l 4 (.qs [9, 10] .nil))) (by kernel_rfl) (by kernel_rfl) ?_
        iterate 6 ((refine wpY_q rfl rfl _ (fun w' hx' => by go_simp; try rfl) ?_; go_simp))
        refine wpY_ix rfl rfl (.tmp 79) (.tmp 80) rfl Try.elId rfl HRR.out j rfl rfl hjn ?_
        intro b4 o4 hc4
        have HC4' := Lib.hid hc4
        clear hc4
        refine wpY_ld rfl rfl (.tmp 81) rfl b4 o4 rfl [.int .u64 kk.1, .int .i64 kk.2] _ (fun w' h => id_range HKK.out (fun q hq => HC4'.out q hq w' h)) Try.underlying45 rfl (by kernel_rfl) ?_
        refine wpY_l rfl rfl ?_
        go_simp
        refine (Of_any ya yn yc x.l _ (Bytes.of_own (own_ext HYO.out EC)) (by omega)).mono ?_
        rintro en wd ⟨rfl, hxd⟩
        have ED := EC.trans' hxd
        refine ⟨ED, ?_⟩
        go_simp
        iterate 2 ((refine wpY_q rfl rfl _ (fun w' hx' => by go_simp; try rfl) ?_; go_simp))
        refine wpY_nil ?_
        have HREL := Lib.hid (show _ ∧ _ ∧ _ from ⟨HCC.out.ext ED, HXC.out.trans' ED, own_ext HRC.out ED⟩)
        clear ED EC hxd h5 h6
        go_wp2
        go_roundw
        case rel => exact ⟨j + 1, Bj, Fc, by go_num, hjn, HREL.out.1, HFC.out, HREL.out.2.1, HREL.out.2.2⟩
        case measure => simp [intOf]; omega
      · obtain rfl : j = jm := by omega
        have hdt : r.1.drop j ++ r.1.take j = r.1 := by
          rw [List.drop_eq_nil_of_le (by have := HJL.out; omega), List.take_of_length_le (by have := HJL.out; omega), List.nil_append]
        have hCj := HCJ.out
        rw [hdt] at hCj
        have HIZ := Lib.hid (IDs_any Bj c room r.1 Fj wb hCj)
        clear hj hjn hCj hdt
        go_wp2_with (first
          | (go_at_call 16; (with_reducible refine HIZ.out.mono ?_); rintro en wc ⟨ka, km, kc, rfl, hkm, hko, hxc⟩; obtain rfl : km = j := (by rw [hkm, List.length_map, HJL.out]); have HSM := Lib.hid (SameIDs_any ka km kc ja jc (r.1.map En.id) wc (Row.of_own hko) (Row.of_own (own_ext HRJ.out hxc)) (by rw [List.length_map]; exact HJL.out) (by omega)); have HXC := Lib.hid (HXJ.out.trans' hxc); clear hkm hko hxc)
          | (go_at_call 26; (with_reducible refine HSM.out.mono ?_); rintro en wd ⟨rfl, hxd⟩; have HXD := Lib.hid (HXC.out.trans' hxd); clear hxd)
          | fail)
        go_ret
        exact ⟨rfl, HX0.out.trans' HXD.out⟩
  · skip
    refine wp_region_e [] (.qs [0, 2] (.l 1 (.qs [3, 4, 5, 6, 7, 8, 10] (.l 9 (.l 11 (.qs [12, 13, 14] .nil)))))) (by kernel_rfl) (by kernel_rfl) ?_
    ((refine wpY_q rfl rfl _ (fun w' hx' => by go_simp; try rfl) ?_; go_simp))
    refine wpY_ld rfl rfl (.tmp 4) rfl w.heap.size 0 rfl [.int .u64 s, .int .i64 z] _ HRD6.out Try.underlying45 rfl (by kernel_rfl) ?_
    refine wpY_l rfl rfl ?_
    go_simp
    refine (Of_any a2 n2 c2 L2 _ (HB6.out.ext E6) hn2).mono ?_
    rintro en w7 ⟨rfl, hx7⟩
    have E7 := E6.trans' hx7
    refine ⟨E7, ?_⟩
    go_simp
    iterate 7 ((refine wpY_q rfl rfl _ (fun w' hx' => by go_simp; try rfl) ?_; go_simp))
    refine wpY_l rfl rfl ?_
    go_simp
    refine (HID6.out _ E7).mono ?_
    rintro en w8 ⟨ja, jm, jc, rfl, hjm, hjo, hx8⟩
    have E8 := E7.trans' hx8
    obtain rfl : jm = im := by rw [hjm, HR1.out, List.length_map, HIL.out]
    clear hjm
    refine ⟨E8, ?_⟩
    go_simp
    refine wpY_l rfl rfl ?_
    go_simp
    refine (SameIDs_any ja jm jc ia ic (E.map En.id) w8 (by have h := Row.of_own hjo; rwa [HR1.out] at h) (Row.of_own (own_ext HIO6.out E8)) (by rw [List.length_map]; exact HIL.out) (by have h1 := HIL.out; have h2 := HOK.out.2; omega)).mono ?_
    rintro en w9 ⟨rfl, hx9⟩
    have E9 := E8.trans' hx9
    refine ⟨E9, ?_⟩
    go_simp
    iterate 3 ((refine wpY_q rfl rfl _ (fun w' hx' => by go_simp; try rfl) ?_; go_simp))
    refine wpY_nil ?_
    have HE7 := Lib.hid E9
    clear hx7 hx8 hx9 E7 E8 E9 E6 h3 hjo
    rename World => w7
    have HID7 := Lib.hid (HID6.out w7 HE7.out)
    clear HID6 HRD6 HIO6
    go_wp2_with (first
      | (go_at_call 16; (with_reducible refine HID7.out.mono ?_); rintro en wa ⟨ja, jm, jc, rfl, hjm, hjo, hxa⟩; have HJM := Lib.hid hjm; have HJO := Lib.hid hjo; have HXA := Lib.hid hxa; clear hjm hjo hxa)
      | fail)
    have HJL := Lib.hid (show r.1.length = jm by have h := HJM.out; rw [List.length_map] at h; exact h.symm)
    have hjm5 : jm ≤ 1048576 := by have h1 := HJL.out; have h2 := HOK6.out.2; omega
    have HCA := Lib.hid (HC6.out.ext (HE7.out.trans' HXA.out))
    have HX0A := Lib.hid (show Ext w0 wa from HX6.out.trans' (HE7.out.trans' HXA.out))
    go_loopw [15] (TrRel w0 w7.heap.size c room r.1 jm ja jc) (fun i _ => jm - (intOf i).toNat)
    case atStart => exact ⟨0, B1, F6, rfl, Nat.zero_le _, by rw [List.drop_zero, List.take_zero, List.append_nil]; exact HCA.out, HFG.out, HX0A.out, HJO.out⟩
    case round =>
      obtain ⟨j, Bj, Fj, rfl, hj, hCj, hFj, hXj, hRj⟩ := hrel
      rename World => wb
      have HCJ := Lib.hid hCj
      have HFJ := Lib.hid hFj
      have HXJ := Lib.hid hXj
      have HRJ := Lib.hid hRj
      have HTJ := Lib.hid hCj.typed
      clear hCj hFj hXj hRj
      by_cases hjn : j < jm
      · obtain ⟨kk, hkk⟩ : ∃ kk, (r.1.map En.id)[j]? = some kk := ⟨_, List.getElem?_eq_getElem (by have := HJL.out; rw [List.length_map]; omega)⟩
        obtain ⟨x, hx, hxi, -, -⟩ := ids_at HOK6.out.1.apart hkk
        have hsm := ids_small HOK6.out.1 HOK6.out.2 (List.mem_of_getElem? hkk)
        have hxr := HOK6.out.1.right x (List.mem_of_getElem? hx)
        have hgt := Get_any Bj c room _ Fj kk.1 kk.2 wb HCJ.out hsm.1 (by omega)
        have hrot := rot_get hx
        rw [hxi] at hrot
        rw [show (kk.1, kk.2) = kk from rfl, hrot] at hgt
        have HGT := Lib.hid hgt
        have HKK := Lib.hid hkk
        have hxl : idOf x.l = kk := by rw [← hxr.1, hxi]
        have hx1 : fp x.l = kk.1 := congrArg Prod.fst hxl
        have hx2 : (x.l.length : Int) = kk.2 := congrArg Prod.snd hxl
        have h5 : ((fp x.l : Int) == (kk.1 : Int)) = true := by simp [hx1]
        have hrb := Row.of_own HRJ.out
        have hxs : x.l.length ≤ 1048576 := by omega
        clear hkk hxi hsm hxr hgt hrot hxl hx
        go_upto_region 14 with (first
          | ((with_reducible refine atSlot 69 ?_); refine wpList_of_wp rfl (owp_ix (o := ⟨some 69, _, _, _, _, _⟩) _ _ rfl Try.elId rfl hrb j rfl rfl hjn ?_); intro b3 o3 hc3; have hr3 := id_range HKK.out hc3; clear hc3 hrb)
          | ((with_reducible refine atSlot 70 ?_); refine wpList_of_wp rfl (wp_load_mid (op := ⟨some 70, _, _, _, _, _⟩) 45 _ rfl b3 o3 rfl [.int .u64 kk.1, .int .i64 kk.2] _ hr3 Try.underlying45 rfl (by kernel_rfl) ?_); clear hr3)
          | (go_at_call 20; (with_reducible refine HGT.out.mono ?_); rintro en wc ⟨ya, yn, yc, rfl, hyo, Fc, hCc, hcc, hFc⟩; have HYO := Lib.hid hyo; have HCC := Lib.hid hCc; have HRC := Lib.hid (own_chg HRJ.out hcc HTJ.out (by decide) (by decide)); have HXC := Lib.hid (show Ext w0 wc from ext_chg HXJ.out hcc HFJ.out); have HFC := Lib.hid (show ∀ q ∈ Fc, w0.heap.size ≤ q from fun q hq => by (rcases hFc q hq with h | h); (exact HFJ.out q h); (exact Nat.le_trans HXJ.out.size h)); clear hyo hCc hcc hFc)
          | fail)
        have hyl := own_len HYO.out
        have h6 : ((yn : Int) == kk.2) = true := by simp; omega
        have HRR := Lib.hid fun w' (h : Ext wc w') => (Row.of_own HRC.out).ext h
        have EC := Ext.drew' wc
        clear HGT
        refine wp_region_e [] (.qs [0, 1, 2, 3, 5, 6, 7, 8] (.l 4 (.qs [9, 10] .nil))) (by kernel_rfl) (by kernel_rfl) ?_
        iterate 6 ((refine wpY_q rfl rfl _ (fun w' hx' => by go_simp; try rfl) ?_; go_simp))
        refine wpY_ix rfl rfl (.tmp 79) (.tmp 80) rfl Try.elId rfl HRR.out j rfl rfl hjn ?_
        intro b4 o4 hc4
        have HC4' := Lib.hid hc4
        clear hc4
        refine wpY_ld rfl rfl (.tmp 81) rfl b4 o4 rfl [.int .u64 kk.1, .int .i64 kk.2] _ (fun w' h => id_range HKK.out (fun q hq => HC4'.out q hq w' h)) Try.underlying45 rfl (by kernel_rfl) ?_
        refine wpY_l rfl rfl ?_
        go_simp
        refine (Of_any ya yn yc x.l _ (Bytes.of_own (own_ext HYO.out EC)) (by omega)).mono ?_
        rintro en wd ⟨rfl, hxd⟩
        have ED := EC.trans' hxd
        refine ⟨ED, ?_⟩
        go_simp
        iterate 2 ((refine wpY_q rfl rfl _ (fun w' hx' => by go_simp; try rfl) ?_; go_simp))
        refine wpY_nil ?_
        have HREL := Lib.hid (show _ ∧ _ ∧ _ from ⟨HCC.out.ext ED, HXC.out.trans' ED, own_ext HRC.out ED⟩)
        clear ED EC hxd h5 h6
        go_wp2
        go_roundw
        case rel => exact ⟨j + 1, Bj, Fc, by go_num, hjn, HREL.out.1, HFC.out, HREL.out.2.1, HREL.out.2.2⟩
        case measure => simp [intOf]; omega
      · obtain rfl : j = jm := by omega
        have hdt : r.1.drop j ++ r.1.take j = r.1 := by
          rw [List.drop_eq_nil_of_le (by have := HJL.out; omega), List.take_of_length_le (by have := HJL.out; omega), List.nil_append]
        have hCj := HCJ.out
        rw [hdt] at hCj
        have HIZ := Lib.hid (IDs_any Bj c room r.1 Fj wb hCj)
        clear hj hjn hCj hdt
        go_wp2_with (first
          | (go_at_call 16; (with_reducible refine HIZ.out.mono ?_); rintro en wc ⟨ka, km, kc, rfl, hkm, hko, hxc⟩; obtain rfl : km = j := (by rw [hkm, List.length_map, HJL.out]); have HSM := Lib.hid (SameIDs_any ka km kc ja jc (r.1.map En.id) wc (Row.of_own hko) (Row.of_own (own_ext HRJ.out hxc)) (by rw [List.length_map]; exact HJL.out) (by omega)); have HXC := Lib.hid (HXJ.out.trans' hxc); clear hkm hko hxc)
          | (go_at_call 26; (with_reducible refine HSM.out.mono ?_); rintro en wd ⟨rfl, hxd⟩; have HXD := Lib.hid (HXC.out.trans' hxd); clear hxd)
          | fail)
        go_ret
        exact ⟨rfl, HX0.out.trans' HXD.out⟩
end Go.Proofs.Ytpiodpljiklfkaa
