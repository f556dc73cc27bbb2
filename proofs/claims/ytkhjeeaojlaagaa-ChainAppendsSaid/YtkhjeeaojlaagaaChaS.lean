/-
  The law ChainAppends.
-/
import Derived.Test.YtkhjeeaojlaagaaChn4
import Derived.Test.YtkhjeeaojlaagaaChn2
namespace Go.Proofs.Ytkhjeeaojlaagaa
open Go.RowKit

set_option maxRecDepth 100000 in
set_option maxHeartbeats 4000000 in
theorem ChainAppends_walk (a1 : Option Addr) (n1 c1 : Nat) (L1 : List Int) (w : World)
    (hl : Row w a1 n1 c1 1 (L1.map (Value.int .i64))) (hli : ∀ x ∈ L1, -9223372036854775808 ≤ x ∧ x ≤ 9223372036854775807) (ha1 : ∀ p, a1 = some p → 0 < n1 → p.block < w.heap.size) :
    Calls Try.prog 3 #[.slice a1 n1 c1] w (LawPost w) := by
  have ht : Tape (w.alloc (.cells #[.slice a1 n1 c1, .int .i64 0] 25)) w.heap.size 0 :=
    ⟨a1, n1, c1, L1, heap_alloc_new w _, hl.ext (Ext.alloc' _ _), ha1, hli⟩
  have hx1 : Ext w (w.alloc (.cells #[.slice a1 n1 c1, .int .i64 0] 25)) := Ext.alloc' _ _
  have HT := Lib.hid ht
  clear ht
  go_enter Try.func3, Try.ntmps3
  go_wp2_with (first
    | (go_at_call 10; (with_reducible refine (made27_7 w.heap.size 0 _ HT.out (by omega)).mono ?_); rintro e w2 ⟨a, m, c, k2, L, S, rfl, hM, hm, ht2, hk2, hg2⟩; have HM := Lib.hid hM; clear hM; refine Stop.of ?_)
    | fail)
  have HX2 := Lib.hid (hx1.rd hg2 (Nat.le_refl _))
  have hgl : w.heap.size < w2.heap.size := ht2.lt
  have hst := HM.out.val.st (by rw [List.length_map, HM.out.own.len]; omega)
  have hSn : S.length = m := by rw [HM.out.val.len, List.length_map, HM.out.own.len]
  have HST := Lib.hid hst
  clear hst hx1 hg2
  refine Stop.out ?_
  go_wp2_with (first
    | (go_at_call 11; (with_reducible refine (refContents_any a m c L _ HM.out.own.links (by omega) HST.out).mono ?_); rintro e w3 ⟨a3, n3, c3, BL, rfl, hB3, hBS3, hx3⟩; refine Stop.of ?_)
    | fail)
  have hn3 : n3 = m := by rw [← hB3.len, ← List.length_map (f := Bt.l), hBS3, List.length_map, hSn]
  subst hn3
  have HB3 := Lib.hid hB3
  have HBS := Lib.hid hBS3
  clear hB3 hBS3
  refine Stop.out ?_
  go_upto_if 20 with fail
  go_cut [5, 20] from 21 to 26 (fun s5 _ w' => ∃ (ba : Option Addr) (bn bc : Nat) (bl : List UInt8), s5 = .slice ba bn bc ∧ w'.ownsRow w2.heap.size 5 1 (.slice ba bn bc) bn (bl.map u8) ∧ bn ≤ 300 ∧ Ext w3 w')
  case first =>
    by_cases hm0 : n3 = 0
    · subst hm0
      go_wp2
      go_meet
      exact ⟨none, 0, 0, [], rfl, own_nil _ _ _ _, by omega, Below.refl _ _⟩
    · obtain ⟨p, hp⟩ : ∃ p, p + 1 = n3 := ⟨n3 - 1, by omega⟩
      have hsub : (n3 : Int) - 1 = (p : Int) := by omega
      have hd0 : decide ((0 : Int) < n3) = true := decide_eq_true (by omega)
      have hpn : p < n3 := by omega
      obtain ⟨y, hy⟩ : ∃ y, S[p]? = some y := ⟨_, List.getElem?_eq_getElem (by omega)⟩
      obtain ⟨k7, hk7, hkl7⟩ := bt_of HBS.out (ct := y.1) (dt := y.2) hy
      have hy3 : y.1.length ≤ 300 := HM.out.few y (List.mem_of_getElem? hy)
      have hko := HB3.out.dat k7 (List.mem_of_getElem? hk7)
      have hkl := own_len hko.1
      have hkn : k7.n ≤ 300 := by rw [hkl7] at hkl; omega
      have HK7 := Lib.hid hk7
      have HKO := Lib.hid hko
      have HR3 := Lib.hid HB3.out.bts.2.1
      clear hm0 hp hy hk7 hko hkl7
      go_wp2_with (first
        | ((with_reducible refine atSlot 25 ?_); refine wpList_of_wp rfl (owp_ix (o := ⟨some 25, _, _, _, _, _⟩) _ _ rfl Try.elBs rfl HR3.out p rfl rfl hpn ?_); intro b8 o8 hc8; have hd9 := bt_cell HK7.out hc8; clear hc8)
        | fail)
      go_meet
      exact ⟨k7.a, k7.n, k7.c, k7.l, rfl, HKO.out.1, hkn, Below.refl _ _⟩
  case rest =>
    obtain ⟨ba, bn, bc, bl, rfl, hb4, hbn, hx4⟩ := hcut
    rename World => w4
    have hx24 := hx3.trans' hx4
    have HM4 := Lib.hid (show MkC (w.alloc (.cells #[.slice a1 n1 c1, .int .i64 0] 25)) w.heap.size 300 w4 a n3 c L S from ⟨HM.out.own.ext hx24, HM.out.val, HM.out.few, HM.out.short⟩)
    have ht4 := ht2.ext hx24
    have HX4 := Lib.hid (HX2.out.trans' hx24)
    clear ht2 hx3 hx4
    go_wp2_with (first
      | (go_at_call 12; (with_reducible refine (next27_any w.heap.size k2 w2.heap.size ba bn bc bl _ ht4 (by omega) hb4 hgl (by omega)).mono ?_); rintro e w5 ⟨a5, n5, c5, k5, l5, rfl, ho5, hn5, ht5, hk5, hg5⟩; refine Stop.of ?_)
      | fail)
    have HX5 := Lib.hid (HX4.out.rd hg5 (Nat.le_refl _))
    have HL5 := Lib.hid (HM4.out.own.kept hg5 HT.out.lt).links
    have HB5 := Lib.hid (Bytes.of_own ho5)
    have hl5 := own_len ho5
    have HAP := Lib.hid (apC_ok (L := L.map Lk.d) (b := l5) HM4.out.val (by rw [List.length_map, HM4.out.own.len]; omega) (by omega))
    clear hg5 ho5 ht4 hb4
    refine Stop.out ?_
    go_wp2_with (first
      | (go_at_call 13; (with_reducible refine (chAppend_any a n3 c L a5 n5 c5 l5 _ HL5.out HB5.out (by omega) (by omega) HAP.out).mono ?_); rintro e w6 ⟨a6, n6, c6, L6, rfl, hO6, hD6, hx6⟩; have HO6 := Lib.hid hO6; have HD6 := Lib.hid hD6; clear hO6 hD6)
      | (go_at_call 14; (with_reducible refine (refAppend27_any a n3 c L a5 n5 c5 l5 _ (HL5.out.ext hx6) (HB5.out.ext hx6) (by omega) (by omega) HAP.out).mono ?_); rintro e w7 ⟨a7, n7, c7, L7, rfl, hO7, hD7, hx7⟩; have HO7 := Lib.hid hO7; have HD7 := Lib.hid hD7; clear hO7 hD7)
      | (go_at_call 15; (with_reducible refine (known27_any _).mono ?_); rintro e w8 ⟨rfl, hx8⟩; have hx68 := (Ext.trans' hx7 hx8); refine Stop.of ?_)
      | fail)
    have hn6 : n6 = n3 + 1 := by rw [← HO6.out.len, ← List.length_map (f := Lk.d), HD6.out, List.length_append, List.length_map, HM4.out.own.len]; rfl
    have hn7 : n7 = n3 + 1 := by rw [← HO7.out.len, ← List.length_map (f := Lk.d), HD7.out, List.length_append, List.length_map, HM4.out.own.len]; rfl
    have HSM := Lib.hid (refSame27_any a6 n6 c6 L6 a7 n7 c7 L7 w8 (HO6.out.links.ext hx68) (HO7.out.links.ext hx8) (by omega) (by omega) (by rw [HD6.out, HD7.out]))
    clear hn6 hn7
    refine Stop.out ?_
    go_wp2_with (first
      | (go_at_call 16; (with_reducible refine HSM.out.mono ?_); rintro e w9 ⟨rfl, hx9⟩)
      | fail)
    go_ret
    exact ⟨rfl, ((HX5.out.trans' hx6).trans' hx68).trans' hx9⟩
end Go.Proofs.Ytkhjeeaojlaagaa
