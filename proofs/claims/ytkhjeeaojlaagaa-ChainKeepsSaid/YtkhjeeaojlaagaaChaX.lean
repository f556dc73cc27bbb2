/-
  The law ChainStill.
-/
import Derived.Test.YtkhjeeaojlaagaaChaT
namespace Go.Proofs.Ytkhjeeaojlaagaa
open Go.RowKit

def UpRel (w : World) (m : Nat) (i : Value) (wr : World) : Prop := ∃ j : Nat, i = .int .i64 j ∧ j ≤ m ∧ Ext w wr

set_option maxRecDepth 100000 in
set_option maxHeartbeats 8000000 in
theorem ChainStill_walk (a1 : Option Addr) (n1 c1 : Nat) (L1 : List Int) (w : World)
    (hl : Row w a1 n1 c1 1 (L1.map (Value.int .i64))) (hli : ∀ x ∈ L1, -9223372036854775808 ≤ x ∧ x ≤ 9223372036854775807) (ha1 : ∀ p, a1 = some p → 0 < n1 → p.block < w.heap.size) :
    Calls Try.prog 8 #[.slice a1 n1 c1] w (LawPost w) := by
  have ht : Tape (w.alloc (.cells #[.slice a1 n1 c1, .int .i64 0] 25)) w.heap.size 0 :=
    ⟨a1, n1, c1, L1, heap_alloc_new w _, hl.ext (Ext.alloc' _ _), ha1, hli⟩
  have hx1 : Ext w (w.alloc (.cells #[.slice a1 n1 c1, .int .i64 0] 25)) := Ext.alloc' _ _
  have HT := Lib.hid ht
  clear ht
  go_enter Try.func8, Try.ntmps8
  have t1 : True := trivial
  go_wp2_with (first
    | (go_at_call 10; (with_reducible refine (made27_7 w.heap.size 0 _ HT.out (by omega)).mono ?_); rintro e w2 ⟨a, m, c, k2, L, S, rfl, hM, hm, ht2, hk2, hg2⟩; have HM := Lib.hid hM; clear hM)
    | (go_at_call 18; have _t := t1; (with_reducible refine (Next_any w.heap.size k2 20 _ ht2 (by omega) (by omega)).mono ?_); rintro e w3 ⟨u, rfl, hu, ht3, hg3⟩; have hu' : u ≤ 19 := (by unfold Below1 at hu; omega); clear hu t1)
    | (go_at_call 23; (refine (TapeBytes_any w.heap.size (k2 + 1) u 2 _ ht3 (by omega) (by omega) (by omega)).mono ?_); rintro e w4 ⟨a4, c4, l4, rfl, ho4, ht4, hg4⟩; refine Stop.of ?_)
    | fail)
  have HG4 := Lib.hid (grown_trans' (grown_trans' hg2 hg3) hg4)
  have HX4 := Lib.hid (hx1.rd HG4.out (Nat.le_refl _))
  have HM4 := Lib.hid (show MkC (w.alloc (.cells #[.slice a1 n1 c1, .int .i64 0] 25)) w.heap.size 300 w4 a m c L S from ⟨(HM.out.own.kept hg3 HT.out.lt).kept hg4 HT.out.lt, HM.out.val, HM.out.few, HM.out.short⟩)
  have hst := HM.out.val.st (by rw [List.length_map, HM.out.own.len]; omega)
  have hSn : S.length = m := by rw [HM.out.val.len, List.length_map, HM.out.own.len]
  have hLm : (L.map Lk.d).length = m := by rw [List.length_map, HM.out.own.len]
  have hl4 := own_len ho4
  have HST := Lib.hid hst
  have HB4 := Lib.hid (Bytes.of_own ho4)
  have HAP := Lib.hid (apC_ok (L := L.map Lk.d) (b := l4) HM.out.val (by omega) (by omega))
  obtain ⟨dd, hV7⟩ := apL_val (b := l4) HM.out.val (by omega)
  clear hst hx1 hg2 hg3 hg4 ht2 ht3 HM ho4
  refine Stop.out ?_
  go_wp2_with (first
    | (go_at_call 13; (with_reducible refine (chAppend_any a m c L a4 u c4 l4 _ HM4.out.own.links HB4.out (by omega) (by omega) HAP.out).mono ?_); rintro e w7 ⟨a7, n7, c7, L7, rfl, hO7, hD7, hx7⟩; have hn7 : n7 = m + 1 := (by rw [← hO7.len, ← List.length_map (f := Lk.d), hD7, List.length_append, hLm]; rfl); subst hn7; have HO7 := Lib.hid hO7; have HD7 := Lib.hid hD7; have ht7 := ht4.ext hx7; clear hO7 hD7)
    | (go_at_call 18; (with_reducible refine (Next_any w.heap.size (k2 + 1 + u) ((m : Int) + 1) _ ht7 (by omega) (by omega)).mono ?_); rintro e w8 ⟨f, rfl, hf, ht8, hg8⟩; have hf' : f ≤ m := (by unfold Below1 at hf; omega); clear hf; refine Stop.of ?_)
    | fail)
  have hst7 := hV7.st (by rw [List.length_append, hLm]; simp; omega)
  rw [← HD7.out] at hst7
  have hdr : drC (L.map Lk.d) (f : Int) = (drF S f f ((L.map Lk.d).drop f), 0) := by
    unfold drC
    rw [HST.out, if_pos rfl, if_neg (by omega), Int.toNat_natCast]
  obtain ⟨S', hV', hS'n, hS'⟩ := drF_val HM4.out.val (k := f) (by omega)
  obtain ⟨q, hq⟩ : ∃ q, q + f = m := ⟨m - f, by omega⟩
  have hsub : (m : Int) - (f : Int) = (q : Int) := by omega
  have hst' := hV'.st (by rw [drF_length, List.length_drop]; omega)
  have HX8 := Lib.hid ((HX4.out.trans' hx7).rd hg8 (Nat.le_refl _))
  have hgw := HT.out.lt
  have HL8 := Lib.hid (((HM4.out.own.ext hx7).kept hg8 hgw).links)
  have hgw4 : w.heap.size < w4.heap.size := ht4.lt
  have HY8 := Lib.hid ((HO7.out.kept hg8 hgw4).links)
  have HST7 := Lib.hid hst7
  have HSTZ := Lib.hid hst'
  have HDR := Lib.hid hdr
  have HS' := Lib.hid hS'
  have HQ := Lib.hid hq
  have hFq : (drF S f f ((L.map Lk.d).drop f)).length = q := by rw [drF_length, List.length_drop, hLm]; omega
  clear hst7 hdr hst' hS' hV' hV7 hg8 hx7 ht4 ht7 ht8 hq
  refine Stop.out ?_
  go_wp2_with (first
    | (go_at_call 26; (with_reducible refine (chDrop_any a m c L (f : Int) _ HL8.out (by omega) (i64_of (by omega) (by omega)) HDR.out).mono ?_); rintro e w9 ⟨a9, n9, c9, L9, rfl, hO9, hD9, hx9⟩; have hn9 : n9 = q := (by rw [← hO9.len, ← List.length_map (f := Lk.d), hD9, hFq]); subst hn9; have HO9 := Lib.hid hO9; have HD9 := Lib.hid hD9; clear hO9 hD9)
    | (go_at_call 15; (with_reducible refine (known27_any _).mono ?_); rintro e w10 ⟨rfl, hx10⟩; have hx810 := (Ext.trans' hx9 hx10))
    | fail)
  have HL10 := Lib.hid (HL8.out.ext hx810)
  have HY10 := Lib.hid (HY8.out.ext hx810)
  have HZ10 := Lib.hid (HO9.out.links.ext hx10)
  have hstz := HSTZ.out
  rw [← HD9.out] at hstz
  have HSZ := Lib.hid hstz
  have HX10 := Lib.hid (HX8.out.trans' hx810)
  clear hstz hsub hx9 hx10 hx810
  go_loopw [10] (UpRel w10 m) (fun i _ => m - (intOf i).toNat)
  case atStart => exact ⟨0, rfl, Nat.zero_le _, Below.refl _ _⟩
  case round =>
    have t1 : True := trivial
    obtain ⟨j, rfl, hj, hx⟩ := hrel
    rename World => w11
    by_cases hjn : j < m
    rotate_left
    · obtain rfl : j = m := by omega
      go_wp2
      go_ret
      exact ⟨rfl, HX10.out.trans' hx⟩
    obtain ⟨y, hy⟩ : ∃ y, S[j]? = some y := ⟨_, List.getElem?_eq_getElem (by omega)⟩
    have hga : getV S 0 m (j : Int) = (y.1, 0) := by
      unfold getV
      rw [if_neg (by simp), if_neg (by omega), Int.toNat_natCast, getD_of hy]
    have hgb : getV (S ++ [(l4, dd)]) 0 (m + 1) (j : Int) = (y.1, 0) := by
      unfold getV
      rw [if_neg (by simp), if_neg (by omega), Int.toNat_natCast, getD_of (y := y) (by rw [List.getElem?_append_left (by omega)]; exact hy)]
    have hja : i64B (j : Int) := i64_of (by omega) (by omega)
    have HJ := Lib.hid hja
    have HGA := Lib.hid hga
    have HGB := Lib.hid hgb
    have HL := Lib.hid (HL10.out.ext hx)
    have HYY := Lib.hid (HY10.out.ext hx)
    by_cases hjf : j < f
    · have hd0 : decide (j < f) = true := decide_eq_true hjf
      clear hga hgb hja hy
      go_wp2_with (first
        | (go_at_call 19; have _t := t1; (with_reducible refine (chGet_any a m c L (j : Int) _ HL.out (by omega) HJ.out HST.out HGA.out).mono ?_); rintro e w12 ⟨a12, n12, c12, rfl, ho12, hx12⟩; have hB12 := Bytes.of_own ho12; clear ho12 t1)
        | (go_at_call 19; (with_reducible refine (chGet_any a7 (m + 1) c7 L7 (j : Int) _ (HYY.out.ext hx12) (by omega) HJ.out HST7.out HGB.out).mono ?_); rintro e w13 ⟨a13, n13, c13, rfl, ho13, hx13⟩; have hB13 := Bytes.of_own ho13; have hB123 := hB12.ext hx13; clear ho13)
        | ((with_reducible refine atSlot 87 ?_); refine wpList_of_wp rfl (owp_conv (o := ⟨some 87, _, _, _, _, _⟩) _ rfl rfl hB123 Try.underlying28 Try.underlying5 Try.underlying9 ?_))
        | ((with_reducible refine atSlot 89 ?_); refine wpList_of_wp rfl (owp_conv (o := ⟨some 89, _, _, _, _, _⟩) _ rfl rfl hB13 Try.underlying28 Try.underlying5 Try.underlying9 ?_))
        | fail)
      go_roundw
      case rel => exact ⟨j + 1, by go_num, by omega, (hx.trans' hx12).trans' hx13⟩
      case measure => simp [intOf]; omega
    · obtain ⟨r, hr⟩ : ∃ r, r + f = j := ⟨j - f, by omega⟩
      have hd0 : decide (j < f) = false := decide_eq_false hjf
      have hsub : (j : Int) - (f : Int) = (r : Int) := by omega
      have hrq : r < n9 := by have := HQ.out; omega
      have hn9 : n9 ≤ 7 := by have := HQ.out; omega
      obtain ⟨z, hz⟩ : ∃ z, S'[r]? = some z := ⟨_, List.getElem?_eq_getElem (by have := HQ.out; omega)⟩
      obtain ⟨d, hd1, hd2⟩ := HS'.out r z hz
      rw [show f + r = j by omega, hy] at hd1
      simp only [Option.some.injEq] at hd1
      subst hd1
      have hgc : getV S' 0 n9 (r : Int) = (z.1, 0) := by
        unfold getV
        rw [if_neg (by simp), if_neg (by omega), Int.toNat_natCast, getD_of hz]
      have hda : depV S 0 m (j : Int) = (d : Int) := by unfold depV; rw [if_neg (by omega), Int.toNat_natCast, getD_of hy]
      have hdz : depV S' 0 n9 (r : Int) = (z.2 : Int) := by unfold depV; rw [if_neg (by omega), Int.toNat_natCast, getD_of hz]
      have hra : i64B (r : Int) := i64_of (by omega) (by omega)
      have HR := Lib.hid hra
      have HGC := Lib.hid hgc
      have HZ := Lib.hid (HZ10.out.ext hx)
      have hdz' : ∀ w', Ext w11 w' → Calls Try.prog 21 #[.slice a9 n9 c9, .int .i64 (r : Int)] w' (NewNone (.int .i64 (z.2 : Int)) w') := fun w' h => by
        have h1 := chDepth_any a9 n9 c9 L9 (r : Int) w' (HZ.out.ext h) (by omega) hra HSZ.out
        rwa [hdz] at h1
      have hda' : ∀ w', Ext w11 w' → Calls Try.prog 21 #[.slice a m c, .int .i64 (j : Int)] w' (NewNone (.int .i64 (d : Int)) w') := fun w' h => by
        have h1 := chDepth_any a m c L (j : Int) w' (HL.out.ext h) (by omega) hja HST.out
        rwa [hda] at h1
      have HDA := Lib.hid hda'
      have HDZ := Lib.hid hdz'
      have hd3 : decide (d < z.2) = false := decide_eq_false (by omega)
      obtain ⟨zc, zd⟩ := z
      simp only at hd3 hd2
      clear hga hgb hja hy hz hgc hda hdz hda' hdz' hra hr hd2
      have t2 : True := trivial
      go_wp2_with (first
        | (go_at_call 19; have _t := t1; (with_reducible refine (chGet_any a m c L (j : Int) _ HL.out (by omega) HJ.out HST.out HGA.out).mono ?_); rintro e w12 ⟨a12, n12, c12, rfl, ho12, hx12⟩; have hB12 := Bytes.of_own ho12; clear ho12 t1)
        | (go_at_call 19; have _t := t2; (with_reducible refine (chGet_any a7 (m + 1) c7 L7 (j : Int) _ (HYY.out.ext hx12) (by omega) HJ.out HST7.out HGB.out).mono ?_); rintro e w13 ⟨a13, n13, c13, rfl, ho13, hx13⟩; have hB13 := Bytes.of_own ho13; have hB123 := hB12.ext hx13; have hx1213 := hx12.trans' hx13; clear ho13 t2)
        | ((with_reducible refine atSlot 87 ?_); refine wpList_of_wp rfl (owp_conv (o := ⟨some 87, _, _, _, _, _⟩) _ rfl rfl hB123 Try.underlying28 Try.underlying5 Try.underlying9 ?_))
        | ((with_reducible refine atSlot 89 ?_); refine wpList_of_wp rfl (owp_conv (o := ⟨some 89, _, _, _, _, _⟩) _ rfl rfl hB13 Try.underlying28 Try.underlying5 Try.underlying9 ?_))
        | (go_at_call 19; (with_reducible refine (chGet_any a9 n9 c9 L9 (r : Int) _ (HZ.out.ext hx1213) (by omega) HR.out HSZ.out HGC.out).mono ?_); rintro e w14 ⟨a14, n14, c14, rfl, ho14, hx14⟩; have hB14 := Bytes.of_own ho14; have hB124 := hB123.ext hx14; have hx1114 := hx1213.trans' hx14; clear ho14)
        | ((with_reducible refine atSlot 107 ?_); refine wpList_of_wp rfl (owp_conv (o := ⟨some 107, _, _, _, _, _⟩) _ rfl rfl hB14 Try.underlying28 Try.underlying5 Try.underlying9 ?_))
        | ((with_reducible refine atSlot 109 ?_); refine wpList_of_wp rfl (owp_conv (o := ⟨some 109, _, _, _, _, _⟩) _ rfl rfl hB124 Try.underlying28 Try.underlying5 Try.underlying9 ?_))
        | (go_at_call 21; (with_reducible refine (HDZ.out _ hx1114).mono ?_); rintro e w15 ⟨rfl, hx15⟩; have hx1115 := hx1114.trans' hx15)
        | (go_at_call 21; (with_reducible refine (HDA.out _ hx1115).mono ?_); rintro e w16 ⟨rfl, hx16⟩; have hx1116 := hx1115.trans' hx16)
        | fail)
      go_roundw
      case rel => exact ⟨j + 1, by go_num, by omega, hx.trans' hx1116⟩
      case measure => simp [intOf]; omega
end Go.Proofs.Ytkhjeeaojlaagaa
