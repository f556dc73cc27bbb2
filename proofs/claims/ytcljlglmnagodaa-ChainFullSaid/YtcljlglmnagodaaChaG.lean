/-
  The chapter's example; Joined.
-/
import Derived.Test.YtcljlglmnagodaaChaF
import Derived.Test.YtcljlglmnagodaaMathN
import Derived.Test.YtcljlglmnagodaaBts
namespace Go.Proofs.Ytcljlglmnagodaa
open Go.RowKit

def JoRel (w : World) (L : List Bt) (out i : Value) (wr : World) : Prop :=
  ∃ (j m c : Nat) (a : Option Addr), i = .int .i64 j ∧ out = .slice a m c ∧ j ≤ L.length ∧ wr.ownsRow w.heap.size 5 1 (.slice a m c) m (((L.take j).flatMap Bt.l).map u8) ∧ Ext w wr
theorem flat_take {L : List Bt} {j : Nat} {k : Bt} (h : L[j]? = some k) : (L.take (j + 1)).flatMap Bt.l = (L.take j).flatMap Bt.l ++ k.l := by
  rw [List.take_add_one, h, List.flatMap_append]; simp
theorem flat_le (L : List Bt) (j : Nat) : ((L.take j).flatMap Bt.l).length ≤ (L.flatMap Bt.l).length := by
  conv => rhs; rw [← List.take_append_drop j L, List.flatMap_append, List.length_append]
  omega

set_option maxRecDepth 100000 in
set_option maxHeartbeats 2000000 in
theorem Joined_any (a : Option Addr) (n c : Nat) (L : List Bt) (w : World) (hL : Bts w a n c L) (hn : n ≤ 1000000) (hT : (L.flatMap Bt.l).length ≤ 100000000) :
    Calls Try.prog 58 #[.slice a n c] w (NewBytes w (L.flatMap Bt.l)) := by
  have HLN := Lib.hid hL.1
  have HT := Lib.hid hT
  have hrow := hL.2.1
  clear hT
  go_enter Try.func58, Try.ntmps58
  go_wp2
  go_loopw [3, 4] (JoRel w L) (fun _ i _ => n - (intOf i).toNat)
  case atStart => exact ⟨0, 0, 0, none, rfl, rfl, Nat.zero_le _, own_nil _ _ _ _, Below.refl _ _⟩
  case round =>
    obtain ⟨j, m, oc, oa, rfl, rfl, hj, hown, hx3⟩ := hrel
    rename World => w3
    have hjn' : j ≤ n := by have := HLN.out; omega
    by_cases hjn : j < n
    rotate_left
    · obtain rfl : j = n := by omega
      have h := hown
      rw [List.take_of_length_le (by have := HLN.out; omega)] at h
      have H := Lib.hid h
      clear h hown
      go_wp2
      go_ret
      exact ⟨oa, m, oc, rfl, H.out, hx3⟩
    obtain ⟨k, hk⟩ : ∃ k, L[j]? = some k := ⟨_, List.getElem?_eq_getElem (by have := HLN.out; omega)⟩
    have hkb := (hL.2.2 k (List.mem_of_getElem? hk)).1.ext hx3
    have hkl := hkb.len
    have hr1 := hrow.ext hx3
    have hts := flat_take hk
    have hle := flat_le L (j + 1)
    rw [hts, List.length_append, own_len hown, hkl] at hle
    have hmk : m + k.n ≤ 100000000 := by have := HT.out; omega
    have HK := Lib.hid hk
    have HTS := Lib.hid hts
    clear hk hts hle hkl
    go_wp2_with (first
      | ((with_reducible refine atSlot 14 ?_); refine wpList_of_wp rfl (owp_ix (o := ⟨some 14, _, _, _, _, _⟩) _ _ rfl Try.elBs rfl hr1 j rfl rfl hjn ?_); intro b3 o3 hc3; have hd3 := bt_cell HK.out hc3; clear hc3)
      | ((with_reducible refine atSlot 16 ?_); refine wpList_of_wp rfl (owp_app (o := ⟨some 16, _, _, _, _, _⟩) _ _ rfl Try.elB rfl hown rfl hkb.row (u8_oneCell _) (by omega) (by unfold maxLen; omega) hx3.size ?_); intro a6 c6 w6 ho6 hg6)
      | fail)
    go_roundw
    case rel =>
      refine ⟨j + 1, m + k.n, c6, a6, by go_num, rfl, by have := HLN.out; omega, ?_, below_app hx3 hown hg6 hx3.size⟩
      rw [HTS.out, List.map_append]
      exact ho6
    case measure => simp [intOf]; omega

set_option maxRecDepth 100000 in
set_option maxHeartbeats 4000000 in
theorem known27_any (w : World) : Calls Try.prog 55 #[] w (LawPost w) := by
  have H8 := Lib.hid (show (a8 : List UInt8).length ≤ maxLen by decide)
  have H9 := Lib.hid (show (a8 ++ [98] : List UInt8).length ≤ maxLen by decide)
  have hc1 : ∀ (w1 : World) (p : Addr), Bytes w1 (some p) 8 8 a8 → Calls Try.prog 53 #[.slice none 0 0, .slice (some p) 8 8] w1 (LkR w1 [⟨-1, a8⟩] 0) := fun w1 p h =>
    chAppend_any none 0 0 [] _ 8 8 a8 w1 ⟨rfl, Row.empty _ 2, (fun k hk => by cases hk)⟩ h (by decide) (by decide) known_app1
  have hc2 : ∀ (w1 : World) (p : Addr) (a2 : Option Addr) (c2 : Nat) (L2 : List Lk), Links w1 a2 1 c2 L2 → L2.map Lk.d = [⟨-1, a8⟩] → Bytes w1 (some p) 9 9 (a8 ++ [98]) →
      Calls Try.prog 53 #[.slice a2 1 c2, .slice (some p) 9 9] w1 (LkR w1 [⟨-1, a8⟩, ⟨0, [2, 17, 0, 2, 98]⟩] 0) := fun w1 p a2 c2 L2 h1 h2 h3 =>
    chAppend_any a2 1 c2 L2 _ 9 9 (a8 ++ [98]) w1 h1 h3 (by decide) (by decide) (by rw [h2]; exact known_app2)
  have HC1 := Lib.hid hc1
  have HC2 := Lib.hid hc2
  clear hc1 hc2
  obtain ⟨SS, hSS, hS1⟩ := known_st
  have HSS := Lib.hid hSS
  have HS1 := Lib.hid hS1
  have t1 : True := trivial
  clear hSS hS1
  go_enter Try.func55, Try.ntmps55
  go_upto_region 3 with (first
    | ((with_reducible refine atSlot 7 ?_); refine wpList_of_wp rfl (owp_cc (o := ⟨some 7, _, _, _, _, _⟩) _ rfl rfl Try.underlying26 Try.underlying5 (heap_alloc_new w _) ?_); intro w1 hh1 hg1; have E1 : Ext w w1 := (Ext.alloc' w (.cells #[.int .u8 97, .int .u8 97, .int .u8 97, .int .u8 97, .int .u8 97, .int .u8 97, .int .u8 97, .int .u8 97] 5)).grown hg1 (by simp) (fun k hk => by cases hk; exact Nat.le_refl _); have hb1 : Bytes w1 (some ⟨w.heap.size, 0, none⟩) 8 8 a8 := Bytes.of_heap (l := a8) hh1 H8.out; clear hh1 hg1)
    | (go_at_call 53; have _t := t1; (with_reducible refine (HC1.out _ _ hb1).mono ?_); rintro e w2 ⟨a2, n2, c2, L2, rfl, hO2, hD2, hx2⟩; clear t1; have hn2 : n2 = 1 := (by have h := congrArg List.length hD2; rw [List.length_map, hO2.len] at h; exact h); subst hn2; have HO2 := Lib.hid hO2.links; have HD2 := Lib.hid hD2; clear hD2)
    | ((with_reducible refine atSlot 14 ?_); refine wpList_of_wp rfl (owp_cc (o := ⟨some 14, _, _, _, _, _⟩) _ rfl rfl Try.underlying26 Try.underlying5 (heap_alloc_new w2 _) ?_); intro w3 hh3 hg3; have E3 : Ext w2 w3 := (Ext.alloc' w2 (.cells #[.int .u8 97, .int .u8 97, .int .u8 97, .int .u8 97, .int .u8 97, .int .u8 97, .int .u8 97, .int .u8 97, .int .u8 98] 5)).grown hg3 (by simp) (fun k hk => by cases hk; exact Nat.le_refl _); have hb3 : Bytes w3 (some ⟨w2.heap.size, 0, none⟩) 9 9 (a8 ++ [98]) := Bytes.of_heap (l := a8 ++ [98]) hh3 H9.out; clear hh3 hg3)
    | (go_at_call 53; (with_reducible refine (HC2.out _ _ a2 c2 L2 (HO2.out.ext E3) HD2.out hb3).mono ?_); rintro e w4 ⟨a4, n4, c4, L4, rfl, hO4, hD4, hx4⟩)
    | fail)
  have hn4 : n4 = 2 := by have h := congrArg List.length hD4; rw [List.length_map, hO4.len] at h; exact h
  subst hn4
  have hL4 := hO4.links
  obtain ⟨k0, k1, rfl⟩ : ∃ k0 k1, L4 = [k0, k1] := by
    match L4, hO4.len with
    | [x, y], _ => exact ⟨x, y, rfl⟩
  simp only [List.map_cons, List.map_nil, List.cons.injEq, and_true] at hD4
  obtain ⟨hd0, hd1⟩ := hD4
  obtain ⟨b1, xa, xn, xc, xl⟩ := k1
  obtain rfl : b1 = 0 := congrArg Ln.b hd1
  obtain rfl : xl = [2, 17, 0, 2, 98] := congrArg Ln.l hd1
  have hI1 := hL4.2.2 ⟨0, xa, xn, xc, [2, 17, 0, 2, 98]⟩ (by simp)
  have hb5 : Bytes w4 xa xn xc [2, 17, 0, 2, 98] := hI1.1
  have hst : stC ([k0, ⟨0, xa, xn, xc, [2, 17, 0, 2, 98]⟩].map Lk.d) = (SS, 0) := by
    simp only [List.map_cons, List.map_nil]
    rw [hd0, hd1]; exact HSS.out
  have hdv : depV SS 0 2 1 = 1 := by
    unfold depV
    rw [if_neg (by decide)]
    show (((SS.getD 1 ([], 0)).2 : Nat) : Int) = 1
    rw [HS1.out]; rfl
  have hdc := chDepth_any a4 2 c4 _ 1 w4 hL4 (by decide) ⟨by decide, by decide⟩ hst
  rw [hdv] at hdc
  have hr4 := hL4.2.1
  have HDC := Lib.hid hdc
  have hk1 : ([k0, ⟨0, xa, xn, xc, [2, 17, 0, 2, 98]⟩] : List Lk)[1]? = some ⟨0, xa, xn, xc, [2, 17, 0, 2, 98]⟩ := rfl
  have HKK := Lib.hid hk1
  clear hd0 hd1 hI1 hst hdv hdc hk1 hO2 hO4
  go_wp2_with (first
    | ((with_reducible refine atSlot 31 ?_); refine wpList_of_wp rfl (owp_ix (o := ⟨some 31, _, _, _, _, _⟩) _ _ rfl Try.elLk rfl hr4 1 rfl rfl (by decide) ?_); intro b3 o3 hc3; have hd3 := (hc3 0 (by decide)).trans (lk_get HKK.out 0 (by decide)); simp only [Lk.cells, Nat.add_zero, List.getElem?_cons_zero] at hd3; clear hc3)
    | ((with_reducible refine atSlot 38 ?_); refine wpList_of_wp rfl (owp_ix (o := ⟨some 38, _, _, _, _, _⟩) _ _ rfl Try.elLk rfl hr4 1 rfl rfl (by decide) ?_); intro b4 o4 hc4; have hd4 := (hc4 1 (by decide)).trans (lk_get HKK.out 1 (by decide)); simp only [Lk.cells, List.getElem?_cons_succ, List.getElem?_cons_zero] at hd4; clear hc4)
    | ((with_reducible refine atSlot 41 ?_); refine wpList_of_wp rfl (owp_conv (o := ⟨some 41, _, _, _, _, _⟩) _ rfl rfl hb5 Try.underlying26 Try.underlying5 Try.underlying9 ?_))
    | (go_at_call 57; (with_reducible refine HDC.out.mono ?_); rintro e w6 ⟨rfl, hx6⟩)
    | fail)
  go_ret
  exact ⟨rfl, (((E1.trans' hx2).trans' E3).trans' hx4).trans' hx6⟩
end Go.Proofs.Ytcljlglmnagodaa
