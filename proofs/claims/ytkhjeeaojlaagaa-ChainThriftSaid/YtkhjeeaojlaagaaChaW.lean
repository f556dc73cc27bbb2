/-
  The law ChainThrift.
-/
import Derived.Test.YtkhjeeaojlaagaaChaT
import Derived.Test.YtkhjeeaojlaagaaDelK
import Derived.Test.YtkhjeeaojlaagaaDelJ
namespace Go.Proofs.Ytkhjeeaojlaagaa
open Go.RowKit

set_option maxRecDepth 100000 in
set_option maxHeartbeats 8000000 in
theorem ChainThrift_walk (a1 : Option Addr) (n1 c1 : Nat) (L1 : List Int) (w : World)
    (hl : Row w a1 n1 c1 1 (L1.map (Value.int .i64))) (hli : ∀ x ∈ L1, -9223372036854775808 ≤ x ∧ x ≤ 9223372036854775807) (ha1 : ∀ p, a1 = some p → 0 < n1 → p.block < w.heap.size) :
    Calls Try.prog 5 #[.slice a1 n1 c1] w (LawPost w) := by
  have ht : Tape (w.alloc (.cells #[.slice a1 n1 c1, .int .i64 0] 25)) w.heap.size 0 :=
    ⟨a1, n1, c1, L1, heap_alloc_new w _, hl.ext (Ext.alloc' _ _), ha1, hli⟩
  have hx1 : Ext w (w.alloc (.cells #[.slice a1 n1 c1, .int .i64 0] 25)) := Ext.alloc' _ _
  have HT := Lib.hid ht
  clear ht
  go_enter Try.func5, Try.ntmps5
  go_wp2_with (first
    | (go_at_call 10; (with_reducible refine (made27_5 w.heap.size 0 _ HT.out (by omega)).mono ?_); rintro e w2 ⟨a, m, c, k2, L, S, rfl, hM, hm, ht2, hk2, hg2⟩; have HM := Lib.hid hM; clear hM)
    | (go_at_call 18; (with_reducible refine (Next_any w.heap.size k2 30 _ ht2 (by omega) (by omega)).mono ?_); rintro e w3 ⟨u, rfl, hu, ht3, hg3⟩; have hu' : u ≤ 29 := (by unfold Below1 at hu; omega); clear hu)
    | (go_at_call 23; (refine (TapeBytes_any w.heap.size (k2 + 1) u 2 _ ht3 (by omega) (by omega) (by omega)).mono ?_); rintro e w4 ⟨a4, c4, l4, rfl, ho4, ht4, hg4⟩; refine Stop.of ?_)
    | fail)
  have hgw : w.heap.size < w3.heap.size := ht3.lt
  have hg14 := grown_trans' (grown_trans' hg2 hg3) hg4
  have HX4 := Lib.hid (hx1.rd hg14 (Nat.le_refl _))
  have HM4 := Lib.hid (show MkC (w.alloc (.cells #[.slice a1 n1 c1, .int .i64 0] 25)) w.heap.size 300 w4 a m c L S from ⟨(HM.out.own.kept hg3 HT.out.lt).kept hg4 HT.out.lt, HM.out.val, HM.out.few, HM.out.short⟩)
  have hst := HM.out.val.st (by rw [List.length_map, HM.out.own.len]; omega)
  have hSn : S.length = m := by rw [HM.out.val.len, List.length_map, HM.out.own.len]
  have HST := Lib.hid hst
  have HO4 := Lib.hid ho4
  have hs34 := hg4.size
  clear hst hx1 hg2 hg3 hg4 hg14 ht2 ht3 HM ho4
  refine Stop.out ?_
  go_wp2_with (first
    | (go_at_call 11; (with_reducible refine (refContents_any a m c L _ HM4.out.own.links (by omega) HST.out).mono ?_); rintro e w5 ⟨a5, n5, c5, BL, rfl, hB5, hBS5, hx5⟩; refine Stop.of ?_)
    | fail)
  have hn5 : n5 = m := by rw [← hB5.len, ← List.length_map (f := Bt.l), hBS5, List.length_map, hSn]
  subst hn5
  have HB5 := Lib.hid hB5
  have HBS := Lib.hid hBS5
  have ht5 := ht4.ext hx5
  have HO5 := Lib.hid (own_ext HO4.out hx5)
  have hs45 := hx5.size
  clear hB5 hBS5 ht4
  refine Stop.out ?_
  go_upto_if 29 with fail
  go_cut [5, 29] from 30 to 37 (fun s5 _ w' => ∃ (ba : Option Addr) (bn bc : Nat) (bl : List UInt8), s5 = .slice ba bn bc ∧ w'.ownsRow w3.heap.size 5 1 (.slice ba bn bc) bn (bl.map u8) ∧ bn ≤ 330 ∧ w5.grownBy w' (some w.heap.size))
  case first =>
    by_cases hm0 : n5 = 0
    · subst hm0
      go_wp2
      go_meet
      exact ⟨a4, u, c4, l4, rfl, HO5.out, by omega, World.grownBy.refl _ _⟩
    · obtain ⟨p, hp⟩ : ∃ p, p + 1 = n5 := ⟨n5 - 1, by omega⟩
      have hsub : (n5 : Int) - 1 = (p : Int) := by omega
      have hd0 : decide ((0 : Int) < n5) = true := decide_eq_true (by omega)
      have hpn : p < n5 := by omega
      obtain ⟨y, hy⟩ : ∃ y, S[p]? = some y := ⟨_, List.getElem?_eq_getElem (by omega)⟩
      obtain ⟨k7, hk7, hkl7⟩ := bt_of HBS.out (ct := y.1) (dt := y.2) hy
      have hy3 : y.1.length ≤ 300 := HM4.out.few y (List.mem_of_getElem? hy)
      have hko := HB5.out.dat k7 (List.mem_of_getElem? hk7)
      have hkl := own_len hko.1
      have hkn : k7.n ≤ 300 := by rw [hkl7] at hkl; omega
      have HK7 := Lib.hid hk7
      have HKO := Lib.hid (own_base hko.1 hs34)
      have HR5 := Lib.hid HB5.out.bts.2.1
      clear hm0 hp hy hk7 hko hkl7
      go_wp2_with (first
        | ((with_reducible refine atSlot 35 ?_); refine wpList_of_wp rfl (owp_ix (o := ⟨some 35, _, _, _, _, _⟩) _ _ rfl Try.elBs rfl HR5.out p rfl rfl hpn ?_); intro b8 o8 hc8; have hd9 := bt_cell HK7.out hc8; clear hc8)
        | (go_at_call 12; (with_reducible refine (next27_any w.heap.size (k2 + 1 + u) w3.heap.size k7.a k7.n k7.c k7.l _ ht5 (by omega) HKO.out hgw (by omega)).mono ?_); rintro e w6 ⟨a6, n6, c6, k6, l6, rfl, ho6, hn6, ht6, hk6, hg6⟩)
        | fail)
      go_meet
      exact ⟨a6, n6, c6, l6, rfl, own_base ho6 (Nat.le_trans hs34 hs45), by omega, hg6⟩
  case rest =>
    obtain ⟨ba, bn, bc, bl, rfl, hb6, hbn, hg6⟩ := hcut
    rename World => w6
    have HX6 := Lib.hid ((HX4.out.trans' hx5).rd hg6 (Nat.le_refl _))
    have HL6 := Lib.hid ((HM4.out.own.ext hx5).kept hg6 HT.out.lt).links
    have HB6 := Lib.hid (Bytes.of_own hb6)
    have hl6 := own_len hb6
    have HAP := Lib.hid (apC_ok (L := L.map Lk.d) (b := bl) HM4.out.val (by rw [List.length_map, HM4.out.own.len]; omega) (by omega))
    have hLm : (L.map Lk.d).length = n5 := by rw [List.length_map, HM4.out.own.len]
    clear hg6 hb6 ht5
    go_wp2_with (first
      | (go_at_call 13; (with_reducible refine (chAppend_any a n5 c L ba bn bc bl _ HL6.out HB6.out (by omega) (by omega) HAP.out).mono ?_); rintro e w7 ⟨a7, n7, c7, L7, rfl, hO7, hD7, hx7⟩; have hn7 : n7 = n5 + 1 := (by rw [← hO7.len, ← List.length_map (f := Lk.d), hD7, List.length_append, hLm]; rfl); subst hn7; have HO7 := Lib.hid hO7; have HD7 := Lib.hid hD7; clear hO7 hD7)
      | (go_at_call 15; (with_reducible refine (known27_any _).mono ?_); rintro e w8 ⟨rfl, hx8⟩; have hx78 := (Ext.trans' hx7 hx8); have hx78' := hx78; refine Stop.of ?_)
      | fail)
    obtain ⟨y, hy⟩ : ∃ y, L7[n5]? = some y := ⟨_, List.getElem?_eq_getElem (by rw [HO7.out.len]; omega)⟩
    have hyd : y.d = apL S bl := by
      have h := congrArg (fun l => l[n5]?) HD7.out
      simp only [List.getElem?_map, hy, Option.map_some] at h
      rw [List.getElem?_append_right (by rw [hLm]; exact Nat.le_refl _), hLm, Nat.sub_self] at h
      simpa using h
    have hL8 := Lib.hid (HO7.out.links.ext hx8)
    have hr8 := hL8.out.2.1
    have HY := Lib.hid hy
    have HYB := Lib.hid ((hL8.out.2.2 y (List.mem_of_getElem? hy)).1)
    have HYD := Lib.hid hyd
    have hn5n : n5 < n5 + 1 := Nat.lt_succ_self _
    obtain ⟨yb, ya, yn, yc, yl⟩ := y
    clear hy hyd
    refine Stop.out ?_
    go_wp2_with (first
      | ((with_reducible refine atSlot 61 ?_); refine wpList_of_wp rfl (owp_ix (o := ⟨some 61, _, _, _, _, _⟩) _ _ rfl Try.elLk rfl hr8 n5 rfl rfl hn5n ?_); intro b3 o3 hc3; have hrg3 := lk_range HY.out hc3; clear hc3)
      | ((with_reducible refine atSlot 62 ?_); refine wpList_of_wp rfl (wp_load_mid (op := ⟨some 62, _, _, _, _, _⟩) 45 _ rfl b3 o3 rfl _ _ hrg3 Try.underlying45 rfl (by kernel_rfl) ?_); simp only [Lk.cells]; clear hrg3)
      | ((with_reducible refine atStore 9 ?_); refine wpList_of_wp rfl (wp_store_row (o := ⟨none, _, _, _, _, _⟩) _ _ _ rfl w8.heap.size #[.int .i64 yb, .slice ya yn yc] rfl rfl _ _ (heap_alloc_new w8 _) (by kernel_rfl) rfl (by simp [Value.oneCell']) ?_); refine Stop.of ?_)
      | fail)
    have hE9 := Ext.alloc' w8 (.cells #[.int .i64 0, .slice none 0 0] 45)
    have hh9 := setRow_heap (w8.alloc (.cells #[.int .i64 0, .slice none 0 0] 45)) w8.heap.size _ #[.int .i64 yb, .slice ya yn yc] _ _ (heap_alloc_new w8 (.cells #[.int .i64 0, .slice none 0 0] 45))
    have hx9 : Ext w8 ((w8.alloc (.cells #[.int .i64 0, .slice none 0 0] 45)).setRow w8.heap.size #[.int .i64 yb, .slice ya yn yc]) := hE9.setRow (Nat.le_refl _)
    clear hE9
    generalize (w8.alloc (.cells #[.int .i64 0, .slice none 0 0] 45)).setRow w8.heap.size #[.int .i64 yb, .slice ya yn yc] = w9 at hh9 hx9 ⊢
    have hx79 := hx78.trans' hx9
    have hX9 := Lib.hid ((HX6.out.trans' hx78').trans' hx9)
    have hb0 : w9.cell? ⟨w8.heap.size, 0, none⟩ = some (.int .i64 yb) := cell_of_row w9 _ 0 _ _ _ hh9
    have hb1 : w9.cell? ⟨w8.heap.size, 1, none⟩ = some (.slice ya yn yc) := cell_of_row w9 _ 1 _ _ _ hh9
    have hD9 := HYB.out.ext hx9
    have hB9 := HB6.out.ext hx79
    have hyl := hD9.len
    rcases apL_ok (S := S) (b := bl) (by omega) with ⟨hap, -⟩ | ⟨ct, dt, hlast, hd8, hlen, hcl, hbl, hap, hls⟩
    · have h1 := HYD.out.trans hap
      simp only [Lk.d, Ln.mk.injEq] at h1
      obtain ⟨rfl, rfl⟩ := h1
      clear hap
      refine Stop.out ?_
      go_wp2_with (first
        | ((with_reducible refine atSlot 68 ?_); refine wpList_of_wp rfl (owp_conv (o := ⟨some 68, _, _, _, _, _⟩) _ rfl rfl hD9 Try.underlying28 Try.underlying5 Try.underlying9 ?_))
        | ((with_reducible refine atSlot 70 ?_); refine wpList_of_wp rfl (owp_conv (o := ⟨some 70, _, _, _, _, _⟩) _ rfl rfl hB9 Try.underlying28 Try.underlying5 Try.underlying9 ?_))
        | fail)
      go_ret
      exact ⟨rfl, hX9.out⟩
    · obtain ⟨hy1, hy2⟩ := last_get hlast
      rw [hSn] at hap hy1 hy2
      obtain ⟨p, hp⟩ : ∃ p, p + 1 = n5 := ⟨n5 - 1, by omega⟩
      have hnp : n5 - 1 = p := by omega
      rw [hnp] at hap hy1
      have h1 := HYD.out.trans hap
      simp only [Lk.d, Ln.mk.injEq] at h1
      obtain ⟨rfl, rfl⟩ := h1
      obtain ⟨dd, hV⟩ := apL_val (b := bl) HM4.out.val (by omega)
      rw [← HD7.out] at hV
      have hst7 := hV.st (by rw [List.length_map, HO7.out.len]; omega)
      have hgv : getV (S ++ [(bl, dd)]) 0 (n5 + 1) (p : Int) = (ct, 0) := by
        unfold getV
        rw [if_neg (by simp), if_neg (by omega), Int.toNat_natCast, getD_of (y := (ct, dt)) (by rw [List.getElem?_append_left (by omega)]; exact hy1)]
      have hmk : makeRes ct bl = (makeD ct bl, 0) := by unfold makeRes; rw [if_neg (by omega)]
      obtain ⟨hfew, hen⟩ := makeD_len (b := ct) (t := bl) (by omega)
      have HST7 := Lib.hid hst7
      have HIP := Lib.hid (show i64B (p : Int) from ⟨by omega, by omega⟩)
      have HGV := Lib.hid hgv
      have HMK := Lib.hid hmk
      have HEN := Lib.hid hen
      have HFW := Lib.hid hfew
      have hL9 := Lib.hid (hL8.out.ext hx9)
      have hsub : (n5 : Int) - 1 = (p : Int) := by omega
      obtain ⟨q1, q2⟩ := neI (x := (p : Int)) (y := -1) (by omega)
      have hd1 : decide (bn ≤ yn) = false := decide_eq_false (by omega)
      have hDD := Lib.hid hD9
      clear hap hlast hlen hV hst7 hgv hmk hen hfew hy1 hls hyl hnp hp hD9
      refine Stop.out ?_
      go_wp2_with (first
        | (go_at_call 19; (with_reducible refine (chGet_any a7 (n5 + 1) c7 L7 (p : Int) _ hL9.out (by omega) HIP.out HST7.out HGV.out).mono ?_); rintro e w10 ⟨a10, n10, c10, rfl, ho10, hx10⟩; have HB10 := Lib.hid (Bytes.of_own ho10); clear ho10)
        | (go_at_call 24; (with_reducible refine (Make_any a10 n10 c10 ct ba bn bc bl _ HB10.out (hB9.ext hx10) (by have := HB10.out.len; omega) (by omega) HMK.out).mono ?_); rintro e w11 ⟨a11, n11, c11, L11, rfl, hO11, hD11, hx11⟩; have HO11 := Lib.hid hO11; have HD11 := Lib.hid hD11; clear hO11 hD11; have hen2 := HEN.out; rw [← HD11.out, HB10.out.len] at hen2; have HE2 := Lib.hid hen2; clear hen2; have hn11 : n11 ≤ 4096 := (by rw [← HO11.out.1, ← List.length_map (f := Od.d), HD11.out]; exact HFW.out))
        | (go_at_call 25; (with_reducible refine (Encode_any (n10 : Int) a11 n11 c11 L11 _ HO11.out (by omega) HE2.out).mono ?_); rintro e w12 ⟨a12, n12, c12, rfl, ho12, hx12⟩; rw [HD11.out] at ho12; have hB12 := Bytes.of_own ho12; have hx912 := (hx10.trans' hx11).trans' hx12; have hb1' : w12.cell? ⟨w8.heap.size, 1, none⟩ = some (.slice ya yn yc) := cell_of_row w12 _ 1 _ _ _ (hx912.heap' hh9); have hD12 := hDD.out.ext hx912; clear ho12)
        | ((with_reducible refine atSlot 118 ?_); refine wpList_of_wp rfl (owp_conv (o := ⟨some 118, _, _, _, _, _⟩) _ rfl rfl hB12 Try.underlying28 Try.underlying5 Try.underlying9 ?_))
        | ((with_reducible refine atSlot 121 ?_); refine wpList_of_wp rfl (owp_conv (o := ⟨some 121, _, _, _, _, _⟩) _ rfl rfl hD12 Try.underlying28 Try.underlying5 Try.underlying9 ?_))
        | fail)
      go_ret
      exact ⟨rfl, hX9.out.trans' hx912⟩
end Go.Proofs.Ytkhjeeaojlaagaa
