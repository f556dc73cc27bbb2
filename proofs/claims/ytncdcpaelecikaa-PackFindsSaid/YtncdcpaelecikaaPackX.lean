/-
  The reference's Decode.
-/
import Derived.Test.YtncdcpaelecikaaPackW
namespace Go.Proofs.Ytncdcpaelecikaa
open Go.RowKit

theorem uint_no {l : List UInt8} {at_ : Nat} (h : uintOk l at_ = none) : ∃ er, uintRes l at_ = (0, 0, er) ∧ (er == 0) = false ∧ (er != 0) = true := by
  rcases uint_cases l at_ with ⟨z, a1, u1, -⟩ | ⟨-, er, r1, he⟩
  · rw [u1] at h; cases h
  · exact ⟨er, r1, by rcases he with rfl | rfl | rfl <;> decide, by rcases he with rfl | rfl | rfl <;> decide⟩
theorem uint_yes {l : List UInt8} {at_ v nx : Nat} (h : uintOk l at_ = some (v, nx)) : uintRes l at_ = (v, (nx : Int), 0) ∧ at_ < nx ∧ nx ≤ at_ + 10 ∧ nx ≤ l.length ∧ v ≤ 18446744073709551615 := by
  rcases uint_cases l at_ with ⟨v', nx', u1, r1, h1, h2, h3, h4⟩ | ⟨u1, -⟩
  · rw [u1] at h
    simp only [Option.some.injEq, Prod.mk.injEq] at h
    obtain ⟨rfl, rfl⟩ := h
    exact ⟨r1, h1, h2, h3, h4⟩
  · rw [u1] at h; cases h

set_option maxRecDepth 100000 in
set_option maxHeartbeats 8000000 in
theorem refDec_last (a : Option Addr) (n c : Nat) (l : List UInt8) (w : World) (hb : Bytes w a n c l) (hsml : n ≤ 1048576) (S : List Ck) (G : Nat) (hp : isPack l = true) (hS : salv l = (S, G)) (hget : l[G]? = some 0) (z a1 s a2 : Nat) (u1 : uintOk l (G + 1) = some (z, a1)) (u2 : uintOk l a1 = some (s, a2)) :
    Calls Try.prog 23 #[.slice a n c] w (DecPost w l) := by
  have hbl := hb.len
  have hbig : ¬ 1048576 < l.length := by omega
  have hSp : pkSalv l = (S, G) := by unfold pkSalv; rw [if_pos hp, hS]
  obtain ⟨r1, h1, h2, h3, hz⟩ := uint_yes u1
  have R1 := Lib.hid r1
  obtain ⟨r2, h4, h5, h6, hs⟩ := uint_yes u2
  have R2 := Lib.hid r2
  have HB := Lib.hid hbig
  have HS := Lib.hid hS
  have HSp := Lib.hid hSp
  have HP := Lib.hid hp
  have hGn : G < n := by have := (List.getElem?_eq_some_iff.1 hget).1; omega
  obtain ⟨hq, hqn⟩ := neI (x := (G : Int)) (y := (n : Int)) (by omega)
  have HG := Lib.hid hget
  clear hget hS hp hSp hbig r1 r2
  have hst : stopE l G S = 0 := stop_zero HG.out
  have HST := Lib.hid hst
  clear hst
  obtain ⟨r, hr⟩ : ∃ r, endE l (G + 1) S.length = r := ⟨_, rfl⟩
  have hDr : r ≠ 0 → decRes l = ([], r) := fun h0 => by rw [dec_end HB.out HP.out HS.out HST.out (by rw [hr]; exact h0), hr]
  have hD0 : r = 0 → decRes l = (S, 0) := fun h0 => dec_ok HB.out HP.out HS.out HST.out (by rw [hr]; exact h0)
  have HDr := Lib.hid hDr
  have HD0 := Lib.hid hD0
  have HR := Lib.hid hr
  clear hDr hD0 hr
  rw [show ((G + 1 : Nat) : Int) = (G : Int) + 1 by omega] at R1
  have hre : r = (if z ≠ S.length then 293 else if a2 ≠ l.length then 293 else if s ≠ fp (l.take a1) then 294 else 0) := by rw [← HR.out]; unfold endE; rw [u1]; simp only [u2]
  have HRE := Lib.hid hre
  clear hre u1 u2 HR
  have t1 : True := trivial
  go_enter Try.func23, Try.ntmps23
  go_wp2_with (first
    | (go_at_call 41; (with_reducible refine (begins_any a n c l _ hb (by omega)).mono ?_); rw [HP.out]; rintro e w1 ⟨rfl, rfl⟩)
    | (go_at_call 17; (with_reducible refine (refSalvage_any a n c l _ hb (by omega)).mono ?_); rintro e w2 hp2; obtain ⟨cn, cc, ca, L, rfl, hO2, hd2, hx2, hcn⟩ := hp2.is HSp.out; have hb2 := hb.ext hx2)
    | ((with_reducible refine atSlot 31 ?_); refine wpList_of_wp rfl (owp_ixB (o := ⟨some 31, _, _, _, _, _⟩) _ _ rfl Try.elB rfl hb2 G rfl rfl 0 HG.out ?_); intro p hp)
    | ((with_reducible refine atSlot 37 ?_); refine wpList_of_wp rfl (owp_ixB (o := ⟨some 37, _, _, _, _, _⟩) _ _ rfl Try.elB rfl hb2 G rfl rfl 0 HG.out ?_); intro p2 hp2')
    | (go_at_call 47; have _t := t1; (with_reducible refine (TakeUint_as a n c l ((G : Int) + 1) _ hb2 (by omega) R1.out).mono ?_); rintro e w3 ⟨rfl, rfl⟩; clear t1)
    | (go_at_call 47; (with_reducible refine (TakeUint_as a n c l a1 _ hb2 (by omega) R2.out).mono ?_); rintro e w4 ⟨rfl, rfl⟩; refine Stop.of ?_))
  have hcnS : S.length = cn := by rw [← hd2, List.length_map]; exact hO2.len
  have hwr : IntKind.u64.wrap (cn : Int) = (cn : Int) := by rw [IntKind.wrap_u64]; omega
  have HX := Lib.hid hx2
  have HO := Lib.hid hO2
  by_cases hz1 : z = cn
  rotate_left
  · obtain ⟨hq1, hq1n⟩ := neI (x := (z : Int)) (y := (cn : Int)) (by omega)
    have hr2 : r = 293 := by rw [HRE.out, if_pos (by omega)]
    have HD := Lib.hid (HDr.out (by rw [hr2]; decide))
    rw [hr2] at HD
    clear hr2 hz1
    refine Stop.out ?_
    go_wp2
    go_ret2
    exact DecPost.no HD.out HX.out
  obtain ⟨hq1, hq1n⟩ := eqI (x := (z : Int)) (y := (cn : Int)) (by omega)
  by_cases ha2 : a2 = l.length
  rotate_left
  · obtain ⟨hq2, hq2n⟩ := neI (x := (a2 : Int)) (y := (n : Int)) (by omega)
    have hr2 : r = 293 := by rw [HRE.out, if_neg (by omega), if_pos ha2]
    have HD := Lib.hid (HDr.out (by rw [hr2]; decide))
    rw [hr2] at HD
    clear hr2 hz1 ha2
    refine Stop.out ?_
    go_wp2
    go_ret2
    exact DecPost.no HD.out HX.out
  obtain ⟨hq2, hq2n⟩ := eqI (x := (a2 : Int)) (y := (n : Int)) (by omega)
  have hr3 : r = if s ≠ fp (l.take a1) then 294 else 0 := by rw [HRE.out, if_neg (by omega), if_neg (by omega)]
  have HR3 := Lib.hid hr3
  have ha1n : a1 ≤ n := by omega
  clear hz1 ha2 hr3
  by_cases hs1 : s = fp (l.take a1)
  rotate_left
  · obtain ⟨hq3, hq3n⟩ := neI (x := (s : Int)) (y := ((fp (l.take a1) : Nat) : Int)) (by omega)
    have hr2 : r = 294 := by rw [HR3.out, if_pos hs1]
    have HD := Lib.hid (HDr.out (by rw [hr2]; decide))
    rw [hr2] at HD
    clear hr2 hs1
    refine Stop.out ?_
    go_wp2_with (first
      | ((with_reducible refine atSlot 84 ?_); refine wpList_of_wp rfl (owp_sl_hi (o := ⟨some 84, _, _, _, _, _⟩) _ _ rfl Try.elB rfl hb2.row a1 rfl rfl ha1n ?_); intro a6 hr6; have hb6 := Bytes.take hr6)
      | (go_at_call 38; (with_reducible refine (refSum_any a6 a1 c (l.take a1) _ hb6 (by omega)).mono ?_); rintro e w7 ⟨rfl, hx7⟩))
    go_ret2
    exact DecPost.no HD.out (HX.out.trans' hx7)
  · obtain ⟨hq3, hq3n⟩ := eqI (x := (s : Int)) (y := ((fp (l.take a1) : Nat) : Int)) (by omega)
    have hr2 : r = 0 := by rw [HR3.out, if_neg (by simpa using hs1)]
    have HD := Lib.hid (HD0.out hr2)
    have HL := Lib.hid hd2
    clear hr2 hs1 hd2
    refine Stop.out ?_
    go_wp2_with (first
      | ((with_reducible refine atSlot 84 ?_); refine wpList_of_wp rfl (owp_sl_hi (o := ⟨some 84, _, _, _, _, _⟩) _ _ rfl Try.elB rfl hb2.row a1 rfl rfl ha1n ?_); intro a6 hr6; have hb6 := Bytes.take hr6)
      | (go_at_call 38; (with_reducible refine (refSum_any a6 a1 c (l.take a1) _ hb6 (by omega)).mono ?_); rintro e w7 ⟨rfl, hx7⟩))
    go_ret2
    unfold DecPost
    rw [HD.out]
    exact ⟨cn, cc, ca, L, rfl, HO.out.ext hx7, HL.out, HX.out.trans' hx7, by omega⟩

set_option maxRecDepth 100000 in
set_option maxHeartbeats 8000000 in
theorem refDec_zero (a : Option Addr) (n c : Nat) (l : List UInt8) (w : World) (hb : Bytes w a n c l) (hsml : n ≤ 1048576) (S : List Ck) (G : Nat) (hp : isPack l = true) (hS : salv l = (S, G)) (hget : l[G]? = some 0) :
    Calls Try.prog 23 #[.slice a n c] w (DecPost w l) := by
  have hbl := hb.len
  have hbig : ¬ 1048576 < l.length := by omega
  have hSp : pkSalv l = (S, G) := by unfold pkSalv; rw [if_pos hp, hS]
  have HB := Lib.hid hbig
  have HS := Lib.hid hS
  have HSp := Lib.hid hSp
  have HP := Lib.hid hp
  have hGn : G < n := by have := (List.getElem?_eq_some_iff.1 hget).1; omega
  obtain ⟨hq, hqn⟩ := neI (x := (G : Int)) (y := (n : Int)) (by omega)
  have HG := Lib.hid hget
  clear hget hS hp hSp hbig
  have hst : stopE l G S = 0 := stop_zero HG.out
  have HST := Lib.hid hst
  clear hst
  obtain ⟨r, hr⟩ : ∃ r, endE l (G + 1) S.length = r := ⟨_, rfl⟩
  have hDr : r ≠ 0 → decRes l = ([], r) := fun h0 => by rw [dec_end HB.out HP.out HS.out HST.out (by rw [hr]; exact h0), hr]
  have hD0 : r = 0 → decRes l = (S, 0) := fun h0 => dec_ok HB.out HP.out HS.out HST.out (by rw [hr]; exact h0)
  have HDr := Lib.hid hDr
  have HD0 := Lib.hid hD0
  have HR := Lib.hid hr
  clear hDr hD0 hr
  cases u1 : uintOk l (G + 1) with
  | none =>
    have hr2 : r = 293 := by rw [← HR.out]; unfold endE; rw [u1]
    have HD := Lib.hid (HDr.out (by rw [hr2]; decide))
    rw [hr2] at HD
    obtain ⟨er, r1, q0, q1⟩ := uint_no u1
    have R1 := Lib.hid r1
    rw [show ((G + 1 : Nat) : Int) = (G : Int) + 1 by omega] at R1
    clear hr2 r1 u1
    go_enter Try.func23, Try.ntmps23
    go_wp2_with (first
      | (go_at_call 41; (with_reducible refine (begins_any a n c l _ hb (by omega)).mono ?_); rw [HP.out]; rintro e w1 ⟨rfl, rfl⟩)
      | (go_at_call 17; (with_reducible refine (refSalvage_any a n c l _ hb (by omega)).mono ?_); rintro e w2 hp2; obtain ⟨cn, cc, ca, L, rfl, hO2, hd2, hx2, hcn⟩ := hp2.is HSp.out; have hb2 := hb.ext hx2)
      | ((with_reducible refine atSlot 31 ?_); refine wpList_of_wp rfl (owp_ixB (o := ⟨some 31, _, _, _, _, _⟩) _ _ rfl Try.elB rfl hb2 G rfl rfl 0 HG.out ?_); intro p hp)
      | ((with_reducible refine atSlot 37 ?_); refine wpList_of_wp rfl (owp_ixB (o := ⟨some 37, _, _, _, _, _⟩) _ _ rfl Try.elB rfl hb2 G rfl rfl 0 HG.out ?_); intro p2 hp2')
      | (go_at_call 47; (with_reducible refine (TakeUint_as a n c l ((G : Int) + 1) _ hb2 (by omega) R1.out).mono ?_); rintro e w3 ⟨rfl, rfl⟩))
    go_ret2
    exact DecPost.no HD.out hx2
  | some r1 =>
    obtain ⟨z, a1⟩ := r1
    obtain ⟨r1, h1, h2, h3, hz⟩ := uint_yes u1
    have R1 := Lib.hid r1
    rw [show ((G + 1 : Nat) : Int) = (G : Int) + 1 by omega] at R1
    clear r1
    cases u2 : uintOk l a1 with
    | none =>
      have hr2 : r = 293 := by rw [← HR.out]; unfold endE; rw [u1]; simp only [u2]
      have HD := Lib.hid (HDr.out (by rw [hr2]; decide))
      rw [hr2] at HD
      obtain ⟨er, r2, q0, q1⟩ := uint_no u2
      have R2 := Lib.hid r2
      have t1 : True := trivial
      clear hr2 r2 u1 u2
      go_enter Try.func23, Try.ntmps23
      go_wp2_with (first
        | (go_at_call 41; (with_reducible refine (begins_any a n c l _ hb (by omega)).mono ?_); rw [HP.out]; rintro e w1 ⟨rfl, rfl⟩)
        | (go_at_call 17; (with_reducible refine (refSalvage_any a n c l _ hb (by omega)).mono ?_); rintro e w2 hp2; obtain ⟨cn, cc, ca, L, rfl, hO2, hd2, hx2, hcn⟩ := hp2.is HSp.out; have hb2 := hb.ext hx2)
        | ((with_reducible refine atSlot 31 ?_); refine wpList_of_wp rfl (owp_ixB (o := ⟨some 31, _, _, _, _, _⟩) _ _ rfl Try.elB rfl hb2 G rfl rfl 0 HG.out ?_); intro p hp)
        | ((with_reducible refine atSlot 37 ?_); refine wpList_of_wp rfl (owp_ixB (o := ⟨some 37, _, _, _, _, _⟩) _ _ rfl Try.elB rfl hb2 G rfl rfl 0 HG.out ?_); intro p2 hp2')
        | (go_at_call 47; have _t := t1; (with_reducible refine (TakeUint_as a n c l ((G : Int) + 1) _ hb2 (by omega) R1.out).mono ?_); rintro e w3 ⟨rfl, rfl⟩; clear t1)
        | (go_at_call 47; (with_reducible refine (TakeUint_as a n c l a1 _ hb2 (by omega) R2.out).mono ?_); rintro e w4 ⟨rfl, rfl⟩))
      go_ret2
      exact DecPost.no HD.out hx2
    | some r2 =>
      obtain ⟨s, a2⟩ := r2
      exact refDec_last a n c l w hb hsml S G HP.out HS.out HG.out z a1 s a2 u1 u2

set_option maxRecDepth 100000 in
set_option maxHeartbeats 4000000 in
theorem refDecode_any (a : Option Addr) (n c : Nat) (l : List UInt8) (w : World) (hb : Bytes w a n c l) (hn : n ≤ 140737488355328) :
    Calls Try.prog 23 #[.slice a n c] w (DecPost w l) := by
  have hbl := hb.len
  by_cases hbig : 1048576 < l.length
  · have HD := Lib.hid (dec_big hbig)
    go_enter Try.func23, Try.ntmps23
    go_wp2
    go_ret2
    exact DecPost.no HD.out (Below.refl _ _)
  by_cases hp : isPack l = true
  rotate_left
  · have hp' := Bool.eq_false_iff.2 hp
    have HD := Lib.hid (dec_odd hbig hp')
    clear hp
    go_enter Try.func23, Try.ntmps23
    go_wp2_with (go_at_call 41; (with_reducible refine (begins_any a n c l _ hb (by omega)).mono ?_); rw [hp']; rintro e w1 ⟨rfl, rfl⟩)
    go_ret2
    exact DecPost.no HD.out (Below.refl _ _)
  obtain ⟨S, G, hS⟩ : ∃ S G, salv l = (S, G) := ⟨_, _, rfl⟩
  have hSp : pkSalv l = (S, G) := by unfold pkSalv; rw [if_pos hp, hS]
  have hGl : G ≤ l.length := by have := salvF_le l l.length 4 [] (isPack_len hp); unfold salv at hS; rw [hS] at this; exact this
  have HS := Lib.hid hS
  have HSp := Lib.hid hSp
  have HP := Lib.hid hp
  have HB := Lib.hid hbig
  have hsml : n ≤ 1048576 := by omega
  clear hS hSp hp hbig
  cases hget : l[G]? with
  | none =>
    have hG : (G : Int) = n := by have := List.getElem?_eq_none_iff.1 hget; omega
    have hst : stopE l G S = 293 := stop_none hget
    have HD := Lib.hid (dec_stop HB.out HP.out HS.out (by rw [hst]; decide))
    rw [hst] at HD
    obtain ⟨hq, hqn⟩ := eqI (x := (G : Int)) (y := (n : Int)) (by omega)
    clear hst hget hG
    go_enter Try.func23, Try.ntmps23
    go_wp2_with (first
      | (go_at_call 41; (with_reducible refine (begins_any a n c l _ hb (by omega)).mono ?_); rw [HP.out]; rintro e w1 ⟨rfl, rfl⟩)
      | (go_at_call 17; (with_reducible refine (refSalvage_any a n c l _ hb (by omega)).mono ?_); rintro e w2 hp2; obtain ⟨cn, cc, ca, L, rfl, hO2, hd2, hx2, hcn⟩ := hp2.is HSp.out))
    go_ret2
    exact DecPost.no HD.out hx2
  | some x =>
    have hGn : G < n := by have := (List.getElem?_eq_some_iff.1 hget).1; omega
    obtain ⟨hq, hqn⟩ := neI (x := (G : Int)) (y := (n : Int)) (by omega)
    have HG := Lib.hid hget
    clear hget
    by_cases hx0 : x = 0
    rotate_left
    · by_cases hx1 : x = 1
      · subst hx1
        obtain ⟨er, her⟩ := salv_end HS.out HG.out
        have hst : stopE l G S = er := stop_err HG.out her
        have he := frame_errs her
        have he0 : er ≠ 0 := by rcases he with rfl | rfl | rfl <;> decide
        have HD := Lib.hid (dec_stop HB.out HP.out HS.out (by rw [hst]; exact he0))
        rw [hst] at HD
        have HER := Lib.hid her
        clear hst her he he0 hx0
        go_enter Try.func23, Try.ntmps23
        go_wp2_with (first
          | (go_at_call 41; (with_reducible refine (begins_any a n c l _ hb (by omega)).mono ?_); rw [HP.out]; rintro e w1 ⟨rfl, rfl⟩)
          | (go_at_call 17; (with_reducible refine (refSalvage_any a n c l _ hb (by omega)).mono ?_); rintro e w2 hp2; obtain ⟨cn, cc, ca, L, rfl, hO2, hd2, hx2, hcn⟩ := hp2.is HSp.out; rw [← hd2] at HER; have hb2 := hb.ext hx2)
          | ((with_reducible refine atSlot 31 ?_); refine wpList_of_wp rfl (owp_ixB (o := ⟨some 31, _, _, _, _, _⟩) _ _ rfl Try.elB rfl hb2 G rfl rfl 1 HG.out ?_); intro p hp)
          | ((with_reducible refine atSlot 37 ?_); refine wpList_of_wp rfl (owp_ixB (o := ⟨some 37, _, _, _, _, _⟩) _ _ rfl Try.elB rfl hb2 G rfl rfl 1 HG.out ?_); intro p2 hp2')
          | (go_at_call 42; (with_reducible refine (refFrame_any a n c ca cn cc G l L _ hb2 (by omega) hO2.chunks (by omega) (by omega)).mono ?_); rw [HER.out]; rintro e w3 ⟨rfl, hx3⟩))
        go_ret2
        exact DecPost.no HD.out ((hx2.trans' hx3).trans' (Ext.alloc' _ _))
      · have hst : stopE l G S = 293 := stop_odd HG.out hx0 hx1
        have HD := Lib.hid (dec_stop HB.out HP.out HS.out (by rw [hst]; decide))
        rw [hst] at HD
        have hxn : 1 < x.toNat := by
          rcases Nat.lt_or_ge 1 x.toNat with h | h
          · exact h
          · exfalso
            have : x.toNat = 0 ∨ x.toNat = 1 := by omega
            rcases this with h | h
            · exact hx0 (UInt8.toNat_inj.1 h)
            · exact hx1 (UInt8.toNat_inj.1 h)
        have hd1 : decide ((1 : Int) < x.toNat) = true := by simp; omega
        clear hst hx0 hx1
        go_enter Try.func23, Try.ntmps23
        go_wp2_with (first
          | (go_at_call 41; (with_reducible refine (begins_any a n c l _ hb (by omega)).mono ?_); rw [HP.out]; rintro e w1 ⟨rfl, rfl⟩)
          | (go_at_call 17; (with_reducible refine (refSalvage_any a n c l _ hb (by omega)).mono ?_); rintro e w2 hp2; obtain ⟨cn, cc, ca, L, rfl, hO2, hd2, hx2, hcn⟩ := hp2.is HSp.out; have hb2 := hb.ext hx2)
          | ((with_reducible refine atSlot 31 ?_); refine wpList_of_wp rfl (owp_ixB (o := ⟨some 31, _, _, _, _, _⟩) _ _ rfl Try.elB rfl hb2 G rfl rfl x HG.out ?_); intro p hp))
        go_ret2
        exact DecPost.no HD.out hx2
    subst hx0
    exact refDec_zero a n c l w hb hsml S G HP.out HS.out HG.out
end Go.Proofs.Ytncdcpaelecikaa
