/-
  The law CacheRecent.
-/
import Derived.Test.YtpiodpljiklfkaaCacPl
import Derived.Test.YtpiodpljiklfkaaCacBo
namespace Go.Proofs.Ytpiodpljiklfkaa
open Go.RowKit

/-- Between two rounds. -/
def ReRel (w : World) (E G : List En) (room left : Nat) (nv fv i : Value) (wr : World) : Prop :=
  ∃ j n f : Nat, i = .int .i64 j ∧ nv = .int .i64 n ∧ fv = .int .i64 f ∧ j ≤ E.length ∧ (G = [] ∧ n = 0 ∨ Rec E room left G j n f) ∧ Ext w wr
theorem put_gone {room : Nat} {E : List En} {l : List UInt8} (hl : 0 < l.length) (h : (putC room E (idOf l) l).2.2 ≠ 382) :
    (putC room E (idOf l) l).2.2 = 0 ∧ ∃ G : List En, (putC room E (idOf l) l).2.1 = G.map En.id ∧ (G = [] ∨ Rec E room (sizeF E + l.length) G 0 0 0) ∧ ((atF (idOf l) E).isSome = true → G = []) := by
  rw [putC_self hl] at h ⊢
  unfold putF at h ⊢
  cases hat : atF (idOf l) E with
  | some i => exact ⟨rfl, [], rfl, .inl rfl, fun _ => rfl⟩
  | none =>
    rw [hat] at h
    simp only at h ⊢
    by_cases hr : room < pinF E + l.length
    · rw [if_pos hr] at h; exact absurd rfl h
    · rw [if_neg hr]
      exact ⟨rfl, _, rfl, .inr rec_start, fun h => by cases h⟩
theorem put_full {room : Nat} {E : List En} {l : List UInt8} (hl : 0 < l.length) (h : (putC room E (idOf l) l).2.2 = 382) : putC room E (idOf l) l = (E, [], 382) := by
  rw [putC_self hl] at h ⊢
  unfold putF at h ⊢
  cases hat : atF (idOf l) E with
  | some i => rw [hat] at h; cases h
  | none =>
    rw [hat] at h
    simp only at h ⊢
    by_cases hr : room < pinF E + l.length
    · rw [if_pos hr]
    · rw [if_neg hr] at h; cases h

set_option maxRecDepth 100000 in
set_option maxHeartbeats 8000000 in
theorem CacheRecent_walk (a1 : Option Addr) (n1 c1 : Nat) (L1 : List Int) (w : World)
    (hl : Row w a1 n1 c1 1 (L1.map (Value.int .i64))) (hli : ∀ x ∈ L1, -9223372036854775808 ≤ x ∧ x ≤ 9223372036854775807) (ha1 : ∀ p, a1 = some p → 0 < n1 → p.block < w.heap.size) :
    Calls Try.prog 10 #[.slice a1 n1 c1] w (LawPost w) := by
  have ht : Tape (w.alloc (.cells #[.slice a1 n1 c1, .int .i64 0] 39)) w.heap.size 0 :=
    ⟨a1, n1, c1, L1, heap_alloc_new w _, hl.ext (Ext.alloc' _ _), ha1, hli⟩
  have hx1 : Ext w (w.alloc (.cells #[.slice a1 n1 c1, .int .i64 0] 39)) := Ext.alloc' _ _
  have HT := Lib.hid ht
  have HX1 := Lib.hid hx1
  clear ht hx1 hl hli ha1
  go_enter Try.func10, Try.ntmps10
  go_upto_region 2 with fail
  obtain ⟨g, hge⟩ : ∃ g, g = w.heap.size := ⟨_, rfl⟩
  rw [← hge] at HT ⊢
  have HGE := Lib.hid hge
  generalize w.alloc (.cells #[.slice a1 n1 c1, .int .i64 0] 39) = w1 at HT HX1 ⊢
  have hgz : w.heap.size ≤ g := Nat.le_of_eq hge.symm
  clear hge
  have HLV := Lib.hid (show Calls Try.prog 27 #[.pointer (some ⟨g, 0, none⟩), .int .i64 14] w1 (LivO w1 g 0) from lived38_any g 0 14 w1 HT.out (by omega) (by omega))
  go_upto_region 3 with (first
    | (go_at_call 27; (with_reducible refine HLV.out.mono ?_); rintro en w2 ⟨c, room, a, n, cp, E, F, k2, rfl, hD2, hr1, hr14, hk2, hg2, hF2⟩; have HD2 := Lib.hid hD2; have HX2 := Lib.hid (show Ext w w2 from HX1.out.grown hg2 HX1.out.size (fun q hq => by cases hq; exact hgz)); have HF2 := Lib.hid (show ∀ q ∈ F, w.heap.size ≤ q from fun q hq => Nat.le_trans HX1.out.size (hF2 q hq)); clear hD2 hg2 hF2; have HP := Lib.hid (put_new w2 #[.int .i64 0, .slice none 0 0] #[.int .i64 room, .slice a n cp] 28); have HN := Lib.hid (heap_alloc_new w2 (.cells #[.int .i64 0, .slice none 0 0] 28)))
    | ((with_reducible refine atStore 5 ?_); refine wpList_of_wp rfl (wp_store_row (o := ⟨none, _, _, _, _, _⟩) _ _ _ rfl w2.heap.size #[.int .i64 room, .slice a n cp] rfl rfl _ _ HN.out (by kernel_rfl) rfl (by simp [Value.oneCell']) ?_))
    | fail)
  obtain ⟨hx3, hh3⟩ := HP.out
  obtain ⟨b5, hb5⟩ : ∃ b5, b5 = w2.heap.size := ⟨_, rfl⟩
  generalize (w2.alloc (.cells #[.int .i64 0, .slice none 0 0] 28)).setRow w2.heap.size #[.int .i64 room, .slice a n cp] = w3 at hx3 hh3 ⊢
  rw [← hb5] at hh3 ⊢
  have hgb : g < b5 := by rw [hb5]; exact HD2.out.tape.lt
  have HD3 := Lib.hid (HD2.out.ext hx3)
  have HX3 := Lib.hid (HX2.out.trans' hx3)
  have HB3 := Lib.hid (show RcB w3 b5 room a n cp from hh3)
  have HF3 := HF2
  clear hx3 hh3 hb5 HP HN HLV HD2 HX2 HX1 HT
  have HKN := Lib.hid (known38_any w3)
  go_upto_region 5 with (first
    | (go_at_call 14; (with_reducible refine HKN.out.mono ?_); rintro en w4 ⟨rfl, hx4'⟩; have hx4 : Ext w3 w4 := hx4'; clear hx4'; have HD4 := Lib.hid (HD3.out.ext hx4); have HX4 := Lib.hid (HX3.out.trans' hx4); have HB4 := Lib.hid (show RcB w4 b5 room a n cp from hx4.heap' HB3.out); clear hx4)
    | fail)
  have HTX := Lib.hid (text38_any g k2 w4 HD4.out.tape (by omega))
  clear HD3 HX3 HB3 HKN HF2
  go_upto_region 6 with (first
    | (go_at_call 34; (with_reducible refine HTX.out.mono ?_); rintro en w5 ⟨ba, bn, bc, k5, bl, rfl, hn1, hn4, hsl, hbo, ht5, -, hg5⟩)
    | fail)
  have HD5 := Lib.hid (HD4.out.tick hg5 ht5)
  have HX5 := Lib.hid (show Ext w w5 from HX4.out.grown hg5 HX4.out.size (fun q hq => by cases hq; exact hgz))
  have HB5 := Lib.hid (show RcB w5 b5 room a n cp from heap_other HB4.out hg5 (fun e => by cases e; omega))
  have HBY := Lib.hid hbo
  have hbl := own_len hbo
  have HOF := Lib.hid (Of_any ba bn bc bl w5 (Bytes.of_own hbo) (by omega))
  clear hbo ht5 hg5 HD4 HX4 HB4 HTX hsl
  go_upto_region 7 with (first
    | (go_at_call 19; (with_reducible refine HOF.out.mono ?_); rintro e w6 ⟨rfl, hx6⟩; have HP := Lib.hid (put_new w6 #[.int .u64 0, .int .i64 0] #[.int .u64 (fp bl : Nat), .int .i64 bn] 45); have HN := Lib.hid (heap_alloc_new w6 (.cells #[.int .u64 0, .int .i64 0] 45)))
    | ((with_reducible refine atStore 8 ?_); refine wpList_of_wp rfl (wp_store_row (o := ⟨none, _, _, _, _, _⟩) _ _ _ rfl w6.heap.size #[.int .u64 (fp bl : Nat), .int .i64 bn] rfl rfl _ _ HN.out (by kernel_rfl) rfl (by simp [Value.oneCell']) ?_))
    | fail)
  obtain ⟨hx7, hh7⟩ := HP.out
  obtain ⟨b8, hb8⟩ : ∃ b8, b8 = w6.heap.size := ⟨_, rfl⟩
  generalize (w6.alloc (.cells #[.int .u64 0, .int .i64 0] 45)).setRow w6.heap.size #[.int .u64 (fp bl : Nat), .int .i64 bn] = w7 at hx7 hh7 ⊢
  rw [← hb8] at hh7 ⊢
  have hx57 := hx6.trans' hx7
  have HI7 := Lib.hid (show IdBox w7 b8 (fp bl) (bn : Int) from hh7)
  have HD7 := Lib.hid (HD5.out.ext hx57)
  have HX7 := Lib.hid (show Ext w w7 from HX5.out.trans' hx57)
  have HB7 := Lib.hid (show RcB w7 b5 room a n cp from hx57.heap' HB5.out)
  have HBY7 := Lib.hid (own_ext HBY.out hx57)
  clear hx6 hx7 hh7 hx57 hb8 HP HN HOF HD5 HX5 HB5 HBY
  obtain ⟨B1, B2, L, -, -, -, -, hC7, hR7, hLE, -⟩ := HD7.out
  have HC7 := Lib.hid hC7
  have HR7 := Lib.hid hR7
  have HLE := Lib.hid hLE
  have HOK := Lib.hid hC7.ok
  have hfl : fp bl ≤ 18446744073709551615 := by have := fp_lt bl; omega
  have hzz : -9223372036854775808 ≤ (bn : Int) ∧ (bn : Int) ≤ 9223372036854775807 := by omega
  have HID := Lib.hid fun w' (h : Ext w7 w') => IDs_any B1 c room E F w' (hC7.ext h)
  have HHA := Lib.hid fun w' (h : Ext w7 w') => Has_any B1 c room E F (fp bl) (bn : Int) w' (hC7.ext h) hfl hzz
  have HBT := Lib.hid fun w' (h : Ext w7 w') => Bytes38_any B1 c room E F w' (hC7.ext h)
  obtain ⟨bh, hbh⟩ : ∃ bh, bh = (atF (fp bl, (bn : Int)) E).isSome := ⟨_, rfl⟩
  rw [← hbh] at HHA
  have HBH := Lib.hid hbh
  obtain ⟨S, hS⟩ : ∃ S, S = sizeF E := ⟨_, rfl⟩
  rw [← hS] at HBT
  have HSE := Lib.hid hS
  have HR8 := Lib.hid fun w' (h : Ext w7 w') => (HI7.out.ext h).rd
  have hidl : idOf bl = (fp bl, (bn : Int)) := by unfold idOf; rw [hbl]
  have HIDL := Lib.hid hidl
  have HBL := Lib.hid hbl
  have E7 := Ext.drew' w7
  clear hC7 hR7 hLE hbh hS hfl hzz hidl hbl
  refine wp_region_e [] (.qs [0, 2, 3, 5] (.l 1 (.l 4 (.l 6 (.qs [7, 8, 9] .nil))))) (by kernel_rfl) (by kernel_rfl) ?_
  iterate 2 ((refine wpY_q rfl rfl _ (fun w' hx' => by go_simp; try rfl) ?_; go_simp))
  refine wpY_ld rfl rfl (.tmp 8) rfl b8 0 rfl [.int .u64 (fp bl : Nat), .int .i64 bn] _ HR8.out Try.underlying45 rfl (by kernel_rfl) ?_
  ((refine wpY_q rfl rfl _ (fun w' hx' => by go_simp; try rfl) ?_; go_simp))
  refine wpY_l rfl rfl ?_
  go_simp
  refine (HID.out _ E7).mono ?_
  rintro en w8 ⟨ia, im, ic, rfl, him, hio, hx8⟩
  have HIL := Lib.hid (show E.length = im by rw [him, List.length_map])
  clear him
  have E8 := E7.trans' hx8
  refine ⟨E8, ?_⟩
  go_simp
  refine wpY_l rfl rfl ?_
  go_simp
  refine (HHA.out _ E8).mono ?_
  rintro en w9 ⟨rfl, hx9⟩
  have E9 := E8.trans' hx9
  refine ⟨E9, ?_⟩
  go_simp
  refine wpY_l rfl rfl ?_
  go_simp
  refine (HBT.out _ E9).mono ?_
  rintro en wa ⟨rfl, hxa⟩
  have EA := E9.trans' hxa
  refine ⟨EA, ?_⟩
  go_simp
  iterate 3 ((refine wpY_q rfl rfl _ (fun w' hx' => by go_simp; try rfl) ?_; go_simp))
  refine wpY_nil ?_
  have HIO := Lib.hid (own_ext hio (hx9.trans' hxa))
  have HCA := Lib.hid (HC7.out.ext EA)
  have HXA := Lib.hid (show Ext w wa from HX7.out.trans' EA)
  have HIA := Lib.hid (HI7.out.ext EA)
  have HBA := Lib.hid (own_ext HBY7.out EA)
  have HRA := Lib.hid (HR7.out.ext EA)
  have HRCA := Lib.hid (show RcB wa b5 room a n cp from EA.heap' HB7.out)
  have hT := HCA.out.typed
  have HT := Lib.hid hT
  have HPU := Lib.hid (Put38_any B1 c room E F (fp bl) (bn : Int) ba bn bc bl wa HCA.out (StB.own hT HBA.out) (by omega))
  have hrd := HIA.out.rd
  rw [← HIDL.out] at HPU
  obtain ⟨r, hr⟩ : ∃ r, r = putC room E (idOf bl) bl := ⟨_, rfl⟩
  rw [← hr] at HPU
  have HRE := Lib.hid hr
  clear hio hx8 hx9 hxa E7 E8 E9 EA hT hr HID HHA HBT HC7 HX7 HI7 HBY7 HR7 HB7 HR8 HD7
  go_upto_region 9 with (first
    | ((with_reducible refine atSlot 46 ?_); refine wpList_of_wp rfl (wp_load_mid (op := ⟨some 46, _, _, _, _, _⟩) 45 _ rfl b8 0 rfl [.int .u64 (fp bl : Nat), .int .i64 bn] _ hrd Try.underlying45 rfl (by kernel_rfl) ?_); clear hrd)
    | (go_at_call 21; (with_reducible refine HPU.out.mono ?_); rintro en wb ⟨ga, gn, gc, rfl, hgn, hgo, Fb, hCb, hcb, hFb⟩; have HGN := Lib.hid hgn; have HGO := Lib.hid hgo; have HCB := Lib.hid hCb; have HFB := Lib.hid hcb; clear hgn hgo hCb hcb hFb)
    | fail)
  have HXB := Lib.hid (show Ext w wb from ext_chg HXA.out HFB.out HF3.out)
  have HIB := Lib.hid (HIA.out.chg HFB.out HT.out)
  have HIOB := Lib.hid (own_chg HIO.out HFB.out HT.out (by decide) (by decide))
  have HRB := Lib.hid (HRA.out.chg HFB.out HT.out)
  have HRCB := Lib.hid (show RcB wb b5 room a n cp from HFB.out.heap HRCA.out (fun hm => by rcases HT.out _ hm _ _ _ HRCA.out with e | e <;> exact absurd e (by decide)))
  have HIW := Lib.hid (IDs_any B1 c room r.1 Fb wb HCB.out)
  have HOKB := Lib.hid HCB.out.ok
  have hbp : 0 < bl.length := by have := HBL.out; omega
  clear HPU HCA HXA HIA HBA HIO HFB HT HRA HRCA
  by_cases he : r.2.2 = 382
  · have HRV := Lib.hid (show r = (E, [], 382) by rw [HRE.out]; exact put_full hbp (by rw [← HRE.out]; exact he))
    obtain ⟨q1, q2⟩ := eqI he
    have hgn0 : gn = 0 := by rw [HGN.out, HRV.out]; rfl
    subst hgn0
    clear he
    have t1 : True := trivial
    go_wp2_with (first
      | (go_at_call 16; (with_reducible refine HIW.out.mono ?_); rintro en wc ⟨ja, jm, jc, rfl, hjm, hjo, hxc⟩; obtain rfl : jm = im := (by rw [hjm, HRV.out, List.length_map, HIL.out]); have HSM := Lib.hid (SameIDs_any ja jm jc ia ic (E.map En.id) wc (by have h := Row.of_own hjo; rwa [HRV.out] at h) (Row.of_own (own_ext HIOB.out hxc)) (by rw [List.length_map]; exact HIL.out) (by have h1 := HIL.out; have h2 := HOK.out.2; have h3 := HOK.out.1.count; omega)); have HXC := Lib.hid (HXB.out.trans' hxc); clear hjm hjo hxc)
      | (go_at_call 26; (with_reducible refine HSM.out.mono ?_); rintro en wd ⟨rfl, hxd⟩; have HXD := Lib.hid (HXC.out.trans' hxd); clear hxd)
      | fail)
    go_ret
    exact ⟨rfl, HXD.out⟩
  obtain ⟨he0, G, hG1, hG2, hG3⟩ := put_gone (room := room) (E := E) hbp (by rw [← HRE.out]; exact he)
  obtain ⟨A, x, hAx, hxi⟩ := put_last (room := room) (E := E) (l := bl) (by rw [← putC_self hbp, ← HRE.out]; exact he)
  rw [← putC_self hbp, ← HRE.out] at hAx
  rw [← HRE.out] at he0 hG1
  rw [HIDL.out, ← HBH.out] at hG3
  rw [HIDL.out] at hxi
  have HG1 := Lib.hid hG1
  have HG2 := Lib.hid hG2
  have HG3 := Lib.hid hG3
  have HAX := Lib.hid hAx
  have HXI := Lib.hid hxi
  have hgl : gn = G.length := by rw [HGN.out, hG1, List.length_map]
  have HGL := Lib.hid hgl
  obtain ⟨q1, q2⟩ := neI he
  rw [he0] at q1 q2 ⊢
  clear he he0 hG1 hG2 hG3 hAx hxi hgl
  go_upto_region 12 with (first
    | (go_at_call 16; (with_reducible refine HIW.out.mono ?_); rintro en wc ⟨ja, jm, jc, rfl, hjm, hjo, hxc⟩; have HJM := Lib.hid hjm; have HJO := Lib.hid hjo; have HXC := Lib.hid (HXB.out.trans' hxc); have HXBC := Lib.hid hxc; clear hjm hjo hxc)
    | fail)
  obtain ⟨m1, hm1⟩ : ∃ m1, m1 = A.length := ⟨_, rfl⟩
  have hjm1 : jm = m1 + 1 := by rw [HJM.out, HAX.out, List.length_map, List.length_append, hm1]; rfl
  subst hjm1
  have hlast : (r.1.map En.id)[m1]? = some (fp bl, (bn : Int)) := by
    rw [HAX.out, List.map_append, List.getElem?_append_right (by rw [List.length_map]; omega), List.length_map, hm1, Nat.sub_self, List.map_cons, HXI.out]
    rfl
  have hm1s : m1 ≤ 1048576 := by
    have h1 := HOKB.out.1.count
    have h2 := HOKB.out.2
    rw [HAX.out, List.length_append] at h1
    omega
  have HLA := Lib.hid hlast
  obtain ⟨p1, p2⟩ := neI (x := ((m1 + 1 : Nat) : Int)) (y := 0) (by omega)
  have p3 := (eqI (x := ((fp bl : Nat) : Int)) (y := ((fp bl : Nat) : Int)) rfl).1
  have p4 := (eqI (x := (bn : Int)) (y := (bn : Int)) rfl).1
  have hwm : IntKind.i64.wrap (((m1 + 1 : Nat) : Int) - 1) = ((m1 : Nat) : Int) := by rw [IntKind.wrap_i64]; omega
  have hwm2 : IntKind.i64.wrap (m1 : Int) = (m1 : Int) := by rw [IntKind.wrap_i64]; omega
  have HRJ := Lib.hid fun w' (h : Ext wc w') => (Row.of_own HJO.out).ext h
  have HR8 := Lib.hid fun w' (h : Ext wc w') => (HIB.out.ext (HXBC.out.trans' h)).rd
  clear hlast hm1 HJM HAX HXI
  have E7 := Ext.drew' wc
  have hgb0 : bh = true → gn = 0 := fun h => by rw [HGL.out, HG3.out h]; rfl
  cases bh with
  | true =>
    obtain ⟨p9, p10⟩ := eqI (x := (gn : Int)) (y := 0) (by have := hgb0 rfl; omega)
    clear hgb0
    refine wp_region_e [] (.qs [0, 1, 2, 3, 4, 5, 6, 7, 8, 9, 10, 11, 12, 13, 14, 15, 16, 17, 18, 19, 20, 21, 22, 23, 24] .nil) (by kernel_rfl) (by kernel_rfl) ?_
    iterate 11 (first | ((refine wpY_q rfl rfl _ (fun w' hx' => by go_simp; try rfl) ?_; go_simp)) | ((refine wpY_skip rfl rfl ?_; go_simp)))
    refine wpY_q rfl rfl (.int .i64 (m1 : Int)) (fun w' hx' => by go_simp; try rfl) ?_
    go_simp
    refine wpY_ix rfl rfl (.tmp 72) (.tmp 75) rfl Try.elId rfl HRJ.out m1 rfl rfl (by omega) ?_
    intro b3 o3 hc3
    have HC3 := Lib.hid hc3
    clear hc3
    refine wpY_ld rfl rfl (.tmp 76) rfl b3 o3 rfl [.int .u64 (fp bl : Nat), .int .i64 bn] _ (fun w' h => id_range HLA.out (fun q hq => HC3.out q hq w' h)) Try.underlying45 rfl (by kernel_rfl) ?_
    refine wpY_ld rfl rfl (.tmp 8) rfl b8 0 rfl [.int .u64 (fp bl : Nat), .int .i64 bn] _ HR8.out Try.underlying45 rfl (by kernel_rfl) ?_
    iterate 10 (first | ((refine wpY_q rfl rfl _ (fun w' hx' => by go_simp; try rfl) ?_; go_simp)) | ((refine wpY_skip rfl rfl ?_; go_simp)))
    refine wpY_nil ?_
    have HQ := Lib.hid E7
    generalize wc.drew = wq at HQ ⊢
    clear E7
    have HSTART := Lib.hid (show Ext wc wq from HQ.out)
    clear p1 p2 p3 p4 hwm hwm2 HRJ HR8 q1 q2 HLA
    go_wp2
    go_loopw [15, 16, 17] (ReRel wc E G room (S + bn)) (fun _ _ i _ => E.length - (intOf i).toNat)
    case atStart => exact ⟨0, 0, 0, rfl, rfl, rfl, Nat.zero_le _, by rw [HSE.out, ← HBL.out]; rcases HG2.out with h | h; exact .inl ⟨h, rfl⟩; exact .inr h, HSTART.out⟩
    case round =>
      obtain ⟨j, n1', f, rfl, rfl, rfl, hj, hst, hx⟩ := hrel
      rename World => wd
      have HST := Lib.hid hst
      have HXD := Lib.hid (show Ext wc wd from hx)
      have HXDW := Lib.hid (HXC.out.trans' HXD.out)
      clear hst hx
      have hgs : gn ≤ 1048576 := by
        have h1 := gone_few room E (idOf bl) bl
        rw [← HRE.out, ← HGN.out] at h1
        have h2 := HOK.out.1.count
        have h3 := HOK.out.2
        omega
      have him5 : im ≤ 1048576 := by have h1 := HIL.out; have h2 := HOK.out.2; have h3 := HOK.out.1.count; omega
      have hjm : j ≤ im := by have := HIL.out; omega
      clear hj
      by_cases hji : j < im
      · by_cases hng : n1' < gn
        · have hrec : Rec E room (S + bn) G j n1' f := by
            rcases HST.out with ⟨h, -⟩ | h
            · have := HGL.out; rw [h] at this; simp at this; omega
            · exact h
          obtain ⟨kk, hkk⟩ : ∃ kk, (E.map En.id)[j]? = some kk := ⟨_, List.getElem?_eq_getElem (by have := HIL.out; rw [List.length_map]; omega)⟩
          obtain ⟨x, hx, hxi, -, hps⟩ := ids_at HOK.out.1.apart hkk
          have HREC := Lib.hid hrec
          have HKK := Lib.hid hkk
          have HXX := Lib.hid hx
          have HPN := Lib.hid fun w' (h : Ext wd w') => (show Calls Try.prog 35 #[.agg #[.int .i64 room, .slice a n cp], .agg #[.int .u64 kk.1, .int .i64 kk.2]] w' (NewNone (.int .i64 (x.p : Nat)) w') from by
            have h1 := Pins38_any B2 room a n cp L kk.1 kk.2 w' ((HRB.out.ext HXBC.out).ext (HXD.out.trans' h))
            rw [HLE.out, show (kk.1, kk.2) = kk from rfl, hps] at h1
            exact h1)
          have HRI := Lib.hid fun w' (h : Ext wd w') => (Row.of_own HIOB.out).ext (HXBC.out.trans' (HXD.out.trans' h))
          have HRG := Lib.hid fun w' (h : Ext wd w') => (Row.of_own HGO.out).ext (HXBC.out.trans' (HXD.out.trans' h))
          have HR5 := Lib.hid fun w' (h : Ext wd w') => range_of_heap2 ((HXBC.out.trans' (HXD.out.trans' h)).heap' HRCB.out)
          have HF5 := Lib.hid fun w' (h : Ext wd w') => cell_of_row w' b5 0 _ _ _ ((HXBC.out.trans' (HXD.out.trans' h)).heap' HRCB.out)
          have hxl : x.id = idOf x.l := (HOK.out.1.right x (List.mem_of_getElem? hx)).1
          have HKZ := Lib.hid (show kk.2 = (x.l.length : Nat) by rw [← hxi, hxl]; rfl)
          have hxS := size_mem (List.mem_of_getElem? hx)
          have E8 := Ext.drew' wd
          have HXI := Lib.hid hxi
          have hfe := rec_few hrec
          rw [← HSE.out] at hxS hfe
          have hSr : S ≤ 1048576 := by have h1 := HOK.out.1.fits; have h2 := HOK.out.2; rw [← HSE.out] at h1; omega
          clear hrec hkk hx hps hxi hxl
          go_upto_region 18 with fail
          refine wp_region_e [] (.qs [0, 1, 2, 3, 4] (.l 5 (.qs [6] .nil))) (by kernel_rfl) (by kernel_rfl) ?_
          refine wpY_ld rfl rfl (.tmp 5) rfl b5 0 rfl [.int .i64 room, .slice a n cp] _ HR5.out Try.underlying28 rfl (by kernel_rfl) ?_
          iterate 2 ((refine wpY_q rfl rfl _ (fun w' hx' => by go_simp; try rfl) ?_; go_simp))
          refine wpY_ix rfl rfl (.tmp 102) (.tmp 103) rfl Try.elId rfl HRI.out j rfl rfl hji ?_
          intro b3 o3 hc3
          have HC3 := Lib.hid hc3
          clear hc3
          refine wpY_ld rfl rfl (.tmp 104) rfl b3 o3 rfl [.int .u64 kk.1, .int .i64 kk.2] _ (fun w' h => id_range HKK.out (fun q hq => HC3.out q hq w' h)) Try.underlying45 rfl (by kernel_rfl) ?_
          refine wpY_l rfl rfl ?_
          go_simp
          refine (HPN.out _ E8).mono ?_
          rintro en we ⟨rfl, hxe⟩
          have E9 := E8.trans' hxe
          refine ⟨E9, ?_⟩
          go_simp
          have HE9 := Lib.hid E9
          by_cases hp : 0 < x.p
          · ((refine wpY_q rfl rfl _ (fun w' hx' => by go_simp; try rfl) ?_; go_simp))
            refine wpY_nil ?_
            have HREL := Lib.hid (show _ ∧ _ from ⟨rec_pin HREC.out HXX.out hp, HXD.out.trans' E9⟩)
            clear E9 E8 hxe
            go_wp2
            go_roundw
            case rel => exact ⟨j + 1, n1', f, by go_num, rfl, rfl, by have := HIL.out; omega, .inr HREL.out.1, HREL.out.2⟩
            case measure => have := HIL.out; simp [intOf]; omega
          · have hp0 : x.p = 0 := by omega
            rw [hp0]
            ((refine wpY_q rfl rfl _ (fun w' hx' => by go_simp; try rfl) ?_; go_simp))
            refine wpY_nil ?_
            obtain ⟨hlt, hgx, hrec2⟩ := rec_take HREC.out HXX.out hp0 (by rw [← HGL.out]; exact hng)
            have hgk : (r.2.1)[n1']? = some kk := by rw [HG1.out, List.getElem?_map, hgx, ← HXI.out]; rfl
            have HGK := Lib.hid hgk
            have HREC2 := Lib.hid hrec2
            obtain ⟨D, hD⟩ : ∃ D, S = D + f := ⟨S - f, by omega⟩
            have hw1 : IntKind.i64.wrap ((S : Int) - (f : Int)) = (D : Int) := by rw [IntKind.wrap_i64]; omega
            have hw2 : IntKind.i64.wrap ((D : Int) + (bn : Int)) = ((D + bn : Nat) : Int) := by rw [IntKind.wrap_i64]; omega
            have hd : decide (D + bn ≤ room) = false := decide_eq_false (by omega)
            have hdi : decide ((D : Int) + (bn : Int) ≤ (room : Int)) = false := decide_eq_false (by omega)
            have p5 := (eqI (x := (kk.1 : Int)) (y := (kk.1 : Int)) rfl).1
            have p6 := (eqI (x := kk.2) (y := kk.2) rfl).1
            have HXE := Lib.hid (HXD.out.trans' E9)
            have HRI2 := Lib.hid fun w' (h : Ext we w') => HRI.out w' (HE9.out.trans' h)
            have HRG2 := Lib.hid fun w' (h : Ext we w') => HRG.out w' (HE9.out.trans' h)
            have HF52 := Lib.hid fun w' (h : Ext we w') => HF5.out w' (HE9.out.trans' h)
            have EF := Ext.drew' we
            have hrI := HRI2.out _ EF
            have HDD := Lib.hid hD
            clear hp hp0 hlt hgx hrec2 hgk E9 E8 hxe hD HRI HRG HF5 HR5 HPN
            go_upto_region 19 with fail
            refine wp_region_e [] (.qs [0, 1, 2, 3, 4, 5, 6, 7, 8, 9, 10, 11, 12, 13, 14, 15, 16, 17, 18, 19] .nil) (by kernel_rfl) (by kernel_rfl) ?_
            iterate 2 ((refine wpY_q rfl rfl _ (fun w' hx' => by go_simp; try rfl) ?_; go_simp))
            refine wpY_ix rfl rfl (.tmp 108) (.tmp 109) rfl Try.elId rfl HRI2.out j rfl rfl hji ?_
            intro b4 o4 hc4
            have HC4 := Lib.hid hc4
            clear hc4
            refine wpY_ld rfl rfl (.tmp 110) rfl b4 o4 rfl [.int .u64 kk.1, .int .i64 kk.2] _ (fun w' h => id_range HKK.out (fun q hq => HC4.out q hq w' h)) Try.underlying45 rfl (by kernel_rfl) ?_
            iterate 2 ((refine wpY_q rfl rfl _ (fun w' hx' => by go_simp; try rfl) ?_; go_simp))
            refine wpY_ix rfl rfl (.tmp 112) (.tmp 113) rfl Try.elId rfl HRG2.out n1' rfl rfl hng ?_
            intro b6 o6 hc6
            have HC6 := Lib.hid hc6
            clear hc6
            refine wpY_ld rfl rfl (.tmp 114) rfl b6 o6 rfl [.int .u64 kk.1, .int .i64 kk.2] _ (fun w' h => id_range HGK.out (fun q hq => HC6.out q hq w' h)) Try.underlying45 rfl (by kernel_rfl) ?_
            iterate 4 ((refine wpY_q rfl rfl _ (fun w' hx' => by go_simp; try rfl) ?_; go_simp))
            refine wpY_q rfl rfl (.int .i64 (D : Int)) (fun w' hx' => by go_simp; try rfl) ?_
            go_simp
            iterate 2 ((refine wpY_q rfl rfl _ (fun w' hx' => by go_simp; try rfl) ?_; go_simp))
            refine wpY_q rfl rfl (.int .i64 ((D + bn : Nat) : Int)) (fun w' hx' => by go_simp; try rfl) ?_
            go_simp
            ((refine wpY_q rfl rfl _ (fun w' hx' => by go_simp; try rfl) ?_; go_simp))
            refine wpY_q rfl rfl (.int .i64 (room : Int)) (fun w' hx' => by have hb' := HF52.out w' hx'; go_simp; try rfl) ?_
            go_simp
            iterate 2 ((refine wpY_q rfl rfl _ (fun w' hx' => by go_simp; try rfl) ?_; go_simp))
            refine wpY_nil ?_
            have HWF := Lib.hid (show wrap64 ((f : Int) + kk.2) = ((f + x.l.length : Nat) : Int) by have := HKZ.out; unfold wrap64; omega)
            clear hw1 hw2 hd hdi p5 p6
            go_wp2_with (first
              | ((with_reducible refine atSlot 131 ?_); refine wpList_of_wp rfl (owp_ix (o := ⟨some 131, _, _, _, _, _⟩) _ _ rfl Try.elId rfl hrI j rfl rfl hji ?_); intro b7 o7 hc7; have hd7 := id_size HKK.out hc7; clear hc7)
              | fail)
            go_roundw
            case rel => exact ⟨j + 1, n1' + 1, f + x.l.length, by go_num, by go_num, by rw [HWF.out], by have := HIL.out; omega, .inr HREC2.out, HXE.out.trans' EF⟩
            case measure => have := HIL.out; simp [intOf]; omega
        · have hfin : n1' = gn := by
            rw [HGL.out]
            rcases HST.out with ⟨h, h2⟩ | h
            · rw [h, h2]; rfl
            · have := h.1; have := HGL.out; omega
          obtain ⟨p7, p8⟩ := eqI (x := (n1' : Int)) (y := (gn : Int)) (by omega)
          have hd1 : decide ((j : Int) < (im : Int)) = true := decide_eq_true (by omega)
          have hd2 : decide ((n1' : Int) < (gn : Int)) = false := decide_eq_false (by omega)
          clear hfin
          go_wp2
          go_ret
          exact ⟨rfl, HXDW.out⟩
      · have hfin : n1' = gn := by
          rw [HGL.out]
          rcases HST.out with ⟨h, h2⟩ | h
          · rw [h, h2]; rfl
          · exact rec_end h (by have := HIL.out; omega)
        obtain ⟨p7, p8⟩ := eqI (x := (n1' : Int)) (y := (gn : Int)) (by omega)
        clear hfin
        go_wp2
        go_ret
        exact ⟨rfl, HXDW.out⟩
  | false =>
    clear hgb0
    refine wp_region_e [] (.qs [0, 1, 2, 3, 4, 5, 6, 7, 8, 9, 10, 11, 12, 13, 14, 15, 16, 17, 18, 19, 20, 21, 22, 23, 24] .nil) (by kernel_rfl) (by kernel_rfl) ?_
    iterate 11 (first | ((refine wpY_q rfl rfl _ (fun w' hx' => by go_simp; try rfl) ?_; go_simp)) | ((refine wpY_skip rfl rfl ?_; go_simp)))
    refine wpY_q rfl rfl (.int .i64 (m1 : Int)) (fun w' hx' => by go_simp; try rfl) ?_
    go_simp
    refine wpY_ix rfl rfl (.tmp 72) (.tmp 75) rfl Try.elId rfl HRJ.out m1 rfl rfl (by omega) ?_
    intro b3 o3 hc3
    have HC3 := Lib.hid hc3
    clear hc3
    refine wpY_ld rfl rfl (.tmp 76) rfl b3 o3 rfl [.int .u64 (fp bl : Nat), .int .i64 bn] _ (fun w' h => id_range HLA.out (fun q hq => HC3.out q hq w' h)) Try.underlying45 rfl (by kernel_rfl) ?_
    refine wpY_ld rfl rfl (.tmp 8) rfl b8 0 rfl [.int .u64 (fp bl : Nat), .int .i64 bn] _ HR8.out Try.underlying45 rfl (by kernel_rfl) ?_
    iterate 10 (first | ((refine wpY_q rfl rfl _ (fun w' hx' => by go_simp; try rfl) ?_; go_simp)) | ((refine wpY_skip rfl rfl ?_; go_simp)))
    refine wpY_nil ?_
    have HQ := Lib.hid E7
    generalize wc.drew = wq at HQ ⊢
    clear E7
    have HSTART := Lib.hid (show Ext wc wq from HQ.out)
    clear p1 p2 p3 p4 hwm hwm2 HRJ HR8 q1 q2 HLA
    go_wp2
    go_loopw [15, 16, 17] (ReRel wc E G room (S + bn)) (fun _ _ i _ => E.length - (intOf i).toNat)
    case atStart => exact ⟨0, 0, 0, rfl, rfl, rfl, Nat.zero_le _, by rw [HSE.out, ← HBL.out]; rcases HG2.out with h | h; exact .inl ⟨h, rfl⟩; exact .inr h, HSTART.out⟩
    case round =>
      obtain ⟨j, n1', f, rfl, rfl, rfl, hj, hst, hx⟩ := hrel
      rename World => wd
      have HST := Lib.hid hst
      have HXD := Lib.hid (show Ext wc wd from hx)
      have HXDW := Lib.hid (HXC.out.trans' HXD.out)
      clear hst hx
      have hgs : gn ≤ 1048576 := by
        have h1 := gone_few room E (idOf bl) bl
        rw [← HRE.out, ← HGN.out] at h1
        have h2 := HOK.out.1.count
        have h3 := HOK.out.2
        omega
      have him5 : im ≤ 1048576 := by have h1 := HIL.out; have h2 := HOK.out.2; have h3 := HOK.out.1.count; omega
      have hjm : j ≤ im := by have := HIL.out; omega
      clear hj
      by_cases hji : j < im
      · by_cases hng : n1' < gn
        · have hrec : Rec E room (S + bn) G j n1' f := by
            rcases HST.out with ⟨h, -⟩ | h
            · have := HGL.out; rw [h] at this; simp at this; omega
            · exact h
          obtain ⟨kk, hkk⟩ : ∃ kk, (E.map En.id)[j]? = some kk := ⟨_, List.getElem?_eq_getElem (by have := HIL.out; rw [List.length_map]; omega)⟩
          obtain ⟨x, hx, hxi, -, hps⟩ := ids_at HOK.out.1.apart hkk
          have HREC := Lib.hid hrec
          have HKK := Lib.hid hkk
          have HXX := Lib.hid hx
          have HPN := Lib.hid fun w' (h : Ext wd w') => (show Calls Try.prog 35 #[.agg #[.int .i64 room, .slice a n cp], .agg #[.int .u64 kk.1, .int .i64 kk.2]] w' (NewNone (.int .i64 (x.p : Nat)) w') from by
            have h1 := Pins38_any B2 room a n cp L kk.1 kk.2 w' ((HRB.out.ext HXBC.out).ext (HXD.out.trans' h))
            rw [HLE.out, show (kk.1, kk.2) = kk from rfl, hps] at h1
            exact h1)
          have HRI := Lib.hid fun w' (h : Ext wd w') => (Row.of_own HIOB.out).ext (HXBC.out.trans' (HXD.out.trans' h))
          have HRG := Lib.hid fun w' (h : Ext wd w') => (Row.of_own HGO.out).ext (HXBC.out.trans' (HXD.out.trans' h))
          have HR5 := Lib.hid fun w' (h : Ext wd w') => range_of_heap2 ((HXBC.out.trans' (HXD.out.trans' h)).heap' HRCB.out)
          have HF5 := Lib.hid fun w' (h : Ext wd w') => cell_of_row w' b5 0 _ _ _ ((HXBC.out.trans' (HXD.out.trans' h)).heap' HRCB.out)
          have hxl : x.id = idOf x.l := (HOK.out.1.right x (List.mem_of_getElem? hx)).1
          have HKZ := Lib.hid (show kk.2 = (x.l.length : Nat) by rw [← hxi, hxl]; rfl)
          have hxS := size_mem (List.mem_of_getElem? hx)
          have E8 := Ext.drew' wd
          have HXI := Lib.hid hxi
          have hfe := rec_few hrec
          rw [← HSE.out] at hxS hfe
          have hSr : S ≤ 1048576 := by have h1 := HOK.out.1.fits; have h2 := HOK.out.2; rw [← HSE.out] at h1; omega
          clear hrec hkk hx hps hxi hxl
          go_upto_region 18 with fail
          refine wp_region_e [] (.qs [0, 1, 2, 3, 4] (.l 5 (.qs [6] .nil))) (by kernel_rfl) (by kernel_rfl) ?_
          refine wpY_ld rfl rfl (.tmp 5) rfl b5 0 rfl [.int .i64 room, .slice a n cp] _ HR5.out Try.underlying28 rfl (by kernel_rfl) ?_
          iterate 2 ((refine wpY_q rfl rfl _ (fun w' hx' => by go_simp; try rfl) ?_; go_simp))
          refine wpY_ix rfl rfl (.tmp 102) (.tmp 103) rfl Try.elId rfl HRI.out j rfl rfl hji ?_
          intro b3 o3 hc3
          have HC3 := Lib.hid hc3
          clear hc3
          refine wpY_ld rfl rfl (.tmp 104) rfl b3 o3 rfl [.int .u64 kk.1, .int .i64 kk.2] _ (fun w' h => id_range HKK.out (fun q hq => HC3.out q hq w' h)) Try.underlying45 rfl (by kernel_rfl) ?_
          refine wpY_l rfl rfl ?_
          go_simp
          refine (HPN.out _ E8).mono ?_
          rintro en we ⟨rfl, hxe⟩
          have E9 := E8.trans' hxe
          refine ⟨E9, ?_⟩
          go_simp
          have HE9 := Lib.hid E9
          by_cases hp : 0 < x.p
          · ((refine wpY_q rfl rfl _ (fun w' hx' => by go_simp; try rfl) ?_; go_simp))
            refine wpY_nil ?_
            have HREL := Lib.hid (show _ ∧ _ from ⟨rec_pin HREC.out HXX.out hp, HXD.out.trans' E9⟩)
            clear E9 E8 hxe
            go_wp2
            refine ⟨?_, ?measure⟩
            (repeat apply Exists.intro)
            refine ⟨?rel, rfl⟩
            case rel => exact ⟨j + 1, n1', f, by go_num, rfl, rfl, by have := HIL.out; omega, .inr HREL.out.1, HREL.out.2⟩
            case measure => have := HIL.out; simp [intOf]; omega
          · have hp0 : x.p = 0 := by omega
            rw [hp0]
            ((refine wpY_q rfl rfl _ (fun w' hx' => by go_simp; try rfl) ?_; go_simp))
            refine wpY_nil ?_
            obtain ⟨hlt, hgx, hrec2⟩ := rec_take HREC.out HXX.out hp0 (by rw [← HGL.out]; exact hng)
            have hgk : (r.2.1)[n1']? = some kk := by rw [HG1.out, List.getElem?_map, hgx, ← HXI.out]; rfl
            have HGK := Lib.hid hgk
            have HREC2 := Lib.hid hrec2
            obtain ⟨D, hD⟩ : ∃ D, S = D + f := ⟨S - f, by omega⟩
            have hw1 : IntKind.i64.wrap ((S : Int) - (f : Int)) = (D : Int) := by rw [IntKind.wrap_i64]; omega
            have hw2 : IntKind.i64.wrap ((D : Int) + (bn : Int)) = ((D + bn : Nat) : Int) := by rw [IntKind.wrap_i64]; omega
            have hd : decide (D + bn ≤ room) = false := decide_eq_false (by omega)
            have hdi : decide ((D : Int) + (bn : Int) ≤ (room : Int)) = false := decide_eq_false (by omega)
            have p5 := (eqI (x := (kk.1 : Int)) (y := (kk.1 : Int)) rfl).1
            have p6 := (eqI (x := kk.2) (y := kk.2) rfl).1
            have HXE := Lib.hid (HXD.out.trans' E9)
            have HRI2 := Lib.hid fun w' (h : Ext we w') => HRI.out w' (HE9.out.trans' h)
            have HRG2 := Lib.hid fun w' (h : Ext we w') => HRG.out w' (HE9.out.trans' h)
            have HF52 := Lib.hid fun w' (h : Ext we w') => HF5.out w' (HE9.out.trans' h)
            have EF := Ext.drew' we
            have hrI := HRI2.out _ EF
            have HDD := Lib.hid hD
            clear hp hp0 hlt hgx hrec2 hgk E9 E8 hxe hD HRI HRG HF5 HR5 HPN
            go_upto_region 19 with fail
            refine wp_region_e [] (.qs [0, 1, 2, 3, 4, 5, 6, 7, 8, 9, 10, 11, 12, 13, 14, 15, 16, 17, 18, 19] .nil) (by kernel_rfl) (by kernel_rfl) ?_
            iterate 2 ((refine wpY_q rfl rfl _ (fun w' hx' => by go_simp; try rfl) ?_; go_simp))
            refine wpY_ix rfl rfl (.tmp 108) (.tmp 109) rfl Try.elId rfl HRI2.out j rfl rfl hji ?_
            intro b4 o4 hc4
            have HC4 := Lib.hid hc4
            clear hc4
            refine wpY_ld rfl rfl (.tmp 110) rfl b4 o4 rfl [.int .u64 kk.1, .int .i64 kk.2] _ (fun w' h => id_range HKK.out (fun q hq => HC4.out q hq w' h)) Try.underlying45 rfl (by kernel_rfl) ?_
            iterate 2 ((refine wpY_q rfl rfl _ (fun w' hx' => by go_simp; try rfl) ?_; go_simp))
            refine wpY_ix rfl rfl (.tmp 112) (.tmp 113) rfl Try.elId rfl HRG2.out n1' rfl rfl hng ?_
            intro b6 o6 hc6
            have HC6 := Lib.hid hc6
            clear hc6
            refine wpY_ld rfl rfl (.tmp 114) rfl b6 o6 rfl [.int .u64 kk.1, .int .i64 kk.2] _ (fun w' h => id_range HGK.out (fun q hq => HC6.out q hq w' h)) Try.underlying45 rfl (by kernel_rfl) ?_
            iterate 4 ((refine wpY_q rfl rfl _ (fun w' hx' => by go_simp; try rfl) ?_; go_simp))
            refine wpY_q rfl rfl (.int .i64 (D : Int)) (fun w' hx' => by go_simp; try rfl) ?_
            go_simp
            iterate 2 ((refine wpY_q rfl rfl _ (fun w' hx' => by go_simp; try rfl) ?_; go_simp))
            refine wpY_q rfl rfl (.int .i64 ((D + bn : Nat) : Int)) (fun w' hx' => by go_simp; try rfl) ?_
            go_simp
            ((refine wpY_q rfl rfl _ (fun w' hx' => by go_simp; try rfl) ?_; go_simp))
            refine wpY_q rfl rfl (.int .i64 (room : Int)) (fun w' hx' => by have hb' := HF52.out w' hx'; go_simp; try rfl) ?_
            go_simp
            iterate 2 ((refine wpY_q rfl rfl _ (fun w' hx' => by go_simp; try rfl) ?_; go_simp))
            refine wpY_nil ?_
            have HWF := Lib.hid (show wrap64 ((f : Int) + kk.2) = ((f + x.l.length : Nat) : Int) by have := HKZ.out; unfold wrap64; omega)
            clear hw1 hw2 hd hdi p5 p6
            go_wp2_with (first
              | ((with_reducible refine atSlot 131 ?_); refine wpList_of_wp rfl (owp_ix (o := ⟨some 131, _, _, _, _, _⟩) _ _ rfl Try.elId rfl hrI j rfl rfl hji ?_); intro b7 o7 hc7; have hd7 := id_size HKK.out hc7; clear hc7)
              | fail)
            refine ⟨?_, ?measure⟩
            (repeat apply Exists.intro)
            refine ⟨?rel, rfl⟩
            case rel => exact ⟨j + 1, n1' + 1, f + x.l.length, by go_num, by go_num, by rw [HWF.out], by have := HIL.out; omega, .inr HREC2.out, HXE.out.trans' EF⟩
            case measure => have := HIL.out; simp [intOf]; omega
        · have hfin : n1' = gn := by
            rw [HGL.out]
            rcases HST.out with ⟨h, h2⟩ | h
            · rw [h, h2]; rfl
            · have := h.1; have := HGL.out; omega
          obtain ⟨p7, p8⟩ := eqI (x := (n1' : Int)) (y := (gn : Int)) (by omega)
          have hd1 : decide ((j : Int) < (im : Int)) = true := decide_eq_true (by omega)
          have hd2 : decide ((n1' : Int) < (gn : Int)) = false := decide_eq_false (by omega)
          clear hfin
          go_wp2
          go_ret
          exact ⟨rfl, HXDW.out⟩
      · have hfin : n1' = gn := by
          rw [HGL.out]
          rcases HST.out with ⟨h, h2⟩ | h
          · rw [h, h2]; rfl
          · exact rec_end h (by have := HIL.out; omega)
        obtain ⟨p7, p8⟩ := eqI (x := (n1' : Int)) (y := (gn : Int)) (by omega)
        clear hfin
        go_wp2
        go_ret
        exact ⟨rfl, HXDW.out⟩
end Go.Proofs.Ytpiodpljiklfkaa
