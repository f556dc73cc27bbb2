/-
  The law ChainFull.
-/
import Derived.Test.YtcljlglmnagodaaChaG
import Derived.Test.YtcljlglmnagodaaChaI
import Derived.Test.YtcljlglmnagodaaDelP
namespace Go.Proofs.Ytcljlglmnagodaa
open Go.RowKit

def fullL (n : Nat) : List Ln := List.replicate n ⟨-1, []⟩
theorem full_val : ∀ n : Nat, ∃ S, Val (fullL n) S
  | 0 => ⟨[], Val.nil⟩
  | n + 1 => by
    obtain ⟨S, hS⟩ := full_val n
    refine ⟨S ++ [([], 0)], ?_⟩
    unfold fullL
    rw [List.replicate_succ']
    exact hS.snoc (lnS_full (Nat.zero_le _))
theorem zeroLks : zeros (.agg #[.int .i64 0, .slice none 0 0]) 256 2 = ((List.replicate 256 ⟨0, none, 0, 0, []⟩ : List Lk)).flatMap Lk.cells := by kernel_rfl
def FuRel (w : World) (g : Nat) (i : Value) (wr : World) : Prop :=
  ∃ (j : Nat) (LL : List Lk), i = .int .i64 j ∧ j ≤ 256 ∧ OwnLks wr w.heap.size (some ⟨g, 0, none⟩) 256 256 LL ∧ (∀ i y, LL[i]? = some y → y.l = [] ∧ y.a = none ∧ y.n = 0 ∧ y.c = 0 ∧ (i < j → y.b = -1)) ∧ Ext w wr
theorem apC_full {L : List Ln} {S : List (List UInt8 × Nat)} (h : Val L S) (hl : L.length = 256) (b : List UInt8) : apC L b = ([], 272) := by
  unfold apC
  rw [h.st (by omega)]
  simp only [if_true]
  rw [if_pos hl]

set_option maxRecDepth 100000 in
set_option maxHeartbeats 8000000 in
theorem ChainFull_walk (n : Int) (w : World) (_h0 : -9223372036854775808 ≤ n) (_h1 : n ≤ 9223372036854775807) :
    Calls Try.prog 20 #[.int .i64 n] w (LawPost w) := by
  go_enter Try.func20, Try.ntmps20
  go_wp2_with (first
    | (go_at_call 30; (with_reducible refine (makeFold_any n 257 _ (by decide)).mono ?_); rintro e w1 ⟨u, rfl, hu, rfl⟩; have hu' : u ≤ 256 := (by unfold Below1 at hu; omega); clear hu)
    | ((with_reducible refine atSlot 15 ?_); refine wpList_of_wp rfl (owp_mk (o := ⟨some 15, _, _, _, _, _⟩) rfl _ _ rfl Try.elLk 256 256 rfl rfl rfl rfl (Nat.le_refl _) (by decide) (by decide) ?_); intro g w2 ho2 hx2; rw [zeroLks] at ho2)
    | fail)
  have HU := Lib.hid hu'
  have hO0 : OwnLks w2 w.heap.size (some ⟨g, 0, none⟩) 256 256 (List.replicate 256 ⟨0, none, 0, 0, []⟩) := ⟨List.length_replicate, ho2, fun y hy => by
    obtain rfl := (List.mem_replicate.1 hy).2
    exact ⟨own_nil _ _ _ _, Nat.zero_le _, i64_of (by decide) (by decide)⟩⟩
  have hgw : w.heap.size ≤ g := (own_block ho2 g rfl).1
  have HG := Lib.hid hgw
  clear ho2 hu' hgw
  go_loopw [4] (FuRel w g) (fun i _ => 256 - (intOf i).toNat)
  case atStart =>
    refine ⟨0, _, rfl, Nat.zero_le _, hO0, fun i y hy => ?_, hx2⟩
    obtain rfl := (List.mem_replicate.1 (List.mem_of_getElem? hy)).2
    exact ⟨rfl, rfl, rfl, rfl, fun h => absurd h (Nat.not_lt_zero _)⟩
  case round =>
    obtain ⟨j, LL, rfl, hj, hO, hA, hx⟩ := hrel
    rename World => w3
    have HO := Lib.hid hO
    have HA := Lib.hid hA
    clear hO hA hO0
    by_cases hjn : j < 256
    · obtain ⟨y, hy⟩ : ∃ y, LL[j]? = some y := ⟨_, List.getElem?_eq_getElem (by rw [HO.out.len]; exact hjn)⟩
      have HY := Lib.hid hy
      clear hy
      go_wp2_with (first
        | ((with_reducible refine atSlot 24 ?_); refine wpList_of_wp rfl (owp_ixp3 (o := ⟨some 24, _, _, _, _, _⟩) _ _ rfl Try.elLk rfl j rfl rfl hjn ?_))
        | ((with_reducible refine atStore 25 ?_); refine wpList_of_wp rfl (owp_st1 (o := ⟨none, _, _, _, _, _⟩) 3 _ _ rfl g (j * 2 + 0) (.int .i64 (-1)) rfl rfl rfl (own_there HO.out.own (by omega)) (by kernel_rfl) rfl ?_))
        | fail)
      go_roundw
      case rel =>
        obtain ⟨y1, y2, y3, y4, -⟩ := HA.out j y HY.out
        refine ⟨j + 1, _, by go_num, hjn, HO.out.set1 (y := { y with b := -1 }) HY.out (by decide : 0 < 2) rfl ⟨(HO.out.dat y (List.mem_of_getElem? HY.out)).1, (HO.out.dat y (List.mem_of_getElem? HY.out)).2.1, i64_of (by show (-9223372036854775808 : Int) ≤ -1; decide) (by show (-1 : Int) ≤ 9223372036854775807; decide)⟩, fun i q hq => ?_, hx.st HG.out _ _⟩
        by_cases hij : i = j
        · subst hij
          have hlt : i < LL.length := by rw [HO.out.len]; exact hjn
          rw [List.getElem?_set_self hlt] at hq
          cases hq
          exact ⟨y1, y2, y3, y4, fun _ => rfl⟩
        · rw [List.getElem?_set_ne (fun h => hij h.symm)] at hq
          obtain ⟨q1, q2, q3, q4, q5⟩ := HA.out i q hq
          exact ⟨q1, q2, q3, q4, fun h => q5 (by omega)⟩
      case measure => simp [intOf]; omega
    · obtain rfl : j = 256 := by omega
      have hd : LL.map Lk.d = fullL 256 := by
        refine List.ext_getElem? fun i => ?_
        unfold fullL
        rw [List.getElem?_map]
        by_cases hi : i < 256
        · obtain ⟨y, hy⟩ : ∃ y, LL[i]? = some y := ⟨_, List.getElem?_eq_getElem (by rw [HO.out.len]; exact hi)⟩
          obtain ⟨y1, -, -, -, y5⟩ := HA.out i y hy
          rw [hy, List.getElem?_replicate_of_lt hi]
          obtain ⟨b, a, m, c, l⟩ := y
          obtain rfl : b = -1 := y5 hi
          obtain rfl : l = [] := y1
          rfl
        · rw [List.getElem?_eq_none (by rw [HO.out.len]; omega), List.getElem?_eq_none (by rw [List.length_replicate]; omega)]
          rfl
      obtain ⟨S, hV⟩ := full_val 256
      have hlen : (fullL 256).length = 256 := List.length_replicate
      have hap1 : ∀ w', Ext w3 w' → Calls Try.prog 53 #[.slice (some ⟨g, 0, none⟩) 256 256, .slice none 0 0] w' (LkR w' [] 272) := fun w' h =>
        chAppend_any _ 256 256 LL none 0 0 [] w' (HO.out.links.ext h) (Bytes.nil _) (by decide) (by decide) (by rw [hd]; exact apC_full hV hlen [])
      have hst := hV.st (by rw [hlen]; exact Nat.le_refl _)
      obtain ⟨S', hV', hS'l, -⟩ := drF_val hV (k := u) (by rw [hlen]; exact HU.out)
      obtain ⟨LR, hLR⟩ : ∃ LR, LR = drF S u u ((fullL 256).drop u) := ⟨_, rfl⟩
      rw [← hLR] at hV'
      have hLRl : LR.length = 256 - u := by rw [hLR, drF_length, List.length_drop, hlen]
      have hdr : ∀ w', Ext w3 w' → Calls Try.prog 64 #[.slice (some ⟨g, 0, none⟩) 256 256, .int .i64 u] w' (LkR w' LR 0) := fun w' h =>
        chDrop_any _ 256 256 LL u w' (HO.out.links.ext h) (by decide) ⟨by omega, by have := HU.out; omega⟩ (by
          rw [hd]; unfold drC; rw [hst]; simp only [if_true]
          rw [if_neg (by rw [hlen]; have := HU.out; omega), Int.toNat_natCast, hLR])
      have hck : ∀ (w' : World) (a : Option Addr) (c : Nat) (L : List Lk), Links w' a 257 c L → Calls Try.prog 66 #[.slice a 257 c] w' (NewNone (.int .i64 272) w') := fun w' a c L h =>
        chCheck_any a 257 c L w' h (by decide) (S := []) (by unfold stC; rw [if_pos (by rw [List.length_map, h.1]; decide)])
      have HAP := Lib.hid hap1
      have HDR := Lib.hid hdr
      have HCK := Lib.hid hck
      clear hap1 hdr hck hst hV hd hLR
      have hin : (257 : Int) = ((257 : Nat) : Int) := rfl
      by_cases hu0 : u = 0
      · have hm1 : (256 : Int) - u = ((256 - u : Nat) : Int) := by have := HU.out; omega
        obtain ⟨m, hm⟩ : ∃ m, m = 256 - u := ⟨_, rfl⟩
        rw [← hm] at hm1 hLRl
        have hm2 : m = 256 := by omega
        have hap2 : ∀ (w' : World) (a : Option Addr) (c : Nat) (L : List Lk), Links w' a m c L → L.map Lk.d = LR → Calls Try.prog 53 #[.slice a m c, .slice none 0 0] w' (LkR w' [] 272) := fun w' a c L h1 h2 =>
          chAppend_any a m c L none 0 0 [] w' h1 (Bytes.nil _) (by omega) (by decide) (by rw [h2]; exact apC_full hV' (by omega) [])
        have HA2 := Lib.hid hap2
        obtain ⟨p1, p2⟩ := eqI (x := (u : Int)) (y := 0) (by omega)
        have hsub : (256 : Int) - u = (m : Int) := hm1
        have HM2 := Lib.hid hm
        clear hap2 hV' hlen hin hm hu0 hm2
        go_wp2_with (first
          | (go_at_call 53; (with_reducible refine (HAP.out w3 (Below.refl _ _)).mono ?_); rintro e w4 ⟨a4, n4, c4, L4, rfl, -, -, hx4⟩; clear HAP)
          | (go_at_call 64; (with_reducible refine (HDR.out w4 hx4).mono ?_); rintro e w5 ⟨a5, n5, c5, L5, rfl, hO5, hD5, hx5⟩; have hn5 : n5 = m := (by rw [← hO5.len, ← List.length_map (f := Lk.d), hD5, hLRl]); subst hn5; have HL5 := Lib.hid hO5.links; have HD5 := Lib.hid hD5; clear hD5 hO5)
          | (go_at_call 53; (with_reducible refine (HA2.out w5 a5 c5 L5 HL5.out HD5.out).mono ?_); rintro e w6 ⟨a6, n6, c6, L6, rfl, -, -, hx6⟩; have hx36 := hx4.trans' (hx5.trans' hx6))
          | ((with_reducible refine atSlot 45 ?_); refine wpList_of_wp rfl (owp_app (o := ⟨some 45, _, _, _, _, _⟩) _ _ rfl Try.elLk rfl ((HO.out.ext hx36).ext (Ext.alloc' w6 _)).own rfl (Row.new w6 #[.int .i64 (-1), .slice none 0 0] 73 1 2 rfl (by decide)) (by decide) (by decide) (by decide) (Nat.le_trans (hx.trans' hx36).size (Ext.alloc' w6 _).size) ?_); intro a7 c7 w7 ho7 hg7; have hO7 := ((HO.out.ext hx36).ext (Ext.alloc' w6 _)).push (y := ⟨-1, none, 0, 0, []⟩) hg7 ho7 (own_nil _ _ _ _) ⟨Nat.zero_le _, i64_of (by decide) (by decide)⟩; have HL7 := Lib.hid hO7.links; have hx7 := below_app ((hx.trans' hx36).al _) ((HO.out.ext hx36).ext (Ext.alloc' w6 _)).own hg7 (Nat.le_trans (hx.trans' hx36).size (Ext.alloc' w6 _).size); clear hO7)
          | (go_at_call 66; (with_reducible refine (HCK.out w7 a7 c7 _ HL7.out).mono ?_); rintro e w8 ⟨rfl, hx8⟩)
          | (go_at_call 55; (with_reducible refine (known27_any _).mono ?_); rintro e w9 ⟨rfl, hx9⟩)
          | fail)
        go_ret
        exact ⟨rfl, Ext.trans' (Ext.trans' hx7 hx8) hx9⟩
      · have hm1 : (256 : Int) - u = ((256 - u : Nat) : Int) := by have := HU.out; omega
        obtain ⟨m, hm⟩ : ∃ m, m = 256 - u := ⟨_, rfl⟩
        rw [← hm] at hm1 hLRl
        have hm2 : m ≤ 255 := by omega
        have hap2 : ∀ (w' : World) (a : Option Addr) (c : Nat) (L : List Lk), Links w' a m c L → L.map Lk.d = LR → Calls Try.prog 53 #[.slice a m c, .slice none 0 0] w' (LkR w' (LR ++ [apL S' []]) 0) := fun w' a c L h1 h2 =>
          chAppend_any a m c L none 0 0 [] w' h1 (Bytes.nil _) (by omega) (by decide) (by rw [h2]; exact apC_ok hV' (by omega) (Nat.zero_le _))
        have HA2 := Lib.hid hap2
        obtain ⟨p1, p2⟩ := neI (x := (u : Int)) (y := 0) (by omega)
        have hsub : (256 : Int) - u = (m : Int) := hm1
        have HM2 := Lib.hid hm
        clear hap2 hV' hlen hin hm hu0 hm2
        go_wp2_with (first
          | (go_at_call 53; (with_reducible refine (HAP.out w3 (Below.refl _ _)).mono ?_); rintro e w4 ⟨a4, n4, c4, L4, rfl, -, -, hx4⟩; clear HAP)
          | (go_at_call 64; (with_reducible refine (HDR.out w4 hx4).mono ?_); rintro e w5 ⟨a5, n5, c5, L5, rfl, hO5, hD5, hx5⟩; have hn5 : n5 = m := (by rw [← hO5.len, ← List.length_map (f := Lk.d), hD5, hLRl]); subst hn5; have HL5 := Lib.hid hO5.links; have HD5 := Lib.hid hD5; clear hD5 hO5)
          | (go_at_call 53; (with_reducible refine (HA2.out w5 a5 c5 L5 HL5.out HD5.out).mono ?_); rintro e w6 ⟨a6, n6, c6, L6, rfl, -, -, hx6⟩; have hx36 := hx4.trans' (hx5.trans' hx6))
          | ((with_reducible refine atSlot 45 ?_); refine wpList_of_wp rfl (owp_app (o := ⟨some 45, _, _, _, _, _⟩) _ _ rfl Try.elLk rfl ((HO.out.ext hx36).ext (Ext.alloc' w6 _)).own rfl (Row.new w6 #[.int .i64 (-1), .slice none 0 0] 73 1 2 rfl (by decide)) (by decide) (by decide) (by decide) (Nat.le_trans (hx.trans' hx36).size (Ext.alloc' w6 _).size) ?_); intro a7 c7 w7 ho7 hg7; have hO7 := ((HO.out.ext hx36).ext (Ext.alloc' w6 _)).push (y := ⟨-1, none, 0, 0, []⟩) hg7 ho7 (own_nil _ _ _ _) ⟨Nat.zero_le _, i64_of (by decide) (by decide)⟩; have HL7 := Lib.hid hO7.links; have hx7 := below_app ((hx.trans' hx36).al _) ((HO.out.ext hx36).ext (Ext.alloc' w6 _)).own hg7 (Nat.le_trans (hx.trans' hx36).size (Ext.alloc' w6 _).size); clear hO7)
          | (go_at_call 66; (with_reducible refine (HCK.out w7 a7 c7 _ HL7.out).mono ?_); rintro e w8 ⟨rfl, hx8⟩)
          | (go_at_call 55; (with_reducible refine (known27_any _).mono ?_); rintro e w9 ⟨rfl, hx9⟩)
          | fail)
        go_ret
        exact ⟨rfl, Ext.trans' (Ext.trans' hx7 hx8) hx9⟩
end Go.Proofs.Ytcljlglmnagodaa
