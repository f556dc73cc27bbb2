/-
  The law TopRoundTrip, walked: it answers true.
-/
import Derived.Test.YtejljmikammcdaaGreatDoorTpC
namespace Go.Proofs.YtejljmikammcdaaGreatDoor
open Go.RowKit Go.WideMaps

set_option maxRecDepth 100000 in
set_option maxHeartbeats 8000000 in
theorem TopRoundTrip_walk (V : List Rl) (a : Option Addr) (c S : Nat) (one : Str) (w : World) (hv : RlsI w S a c V) (hS : S ≤ 1048576) :
    Calls Tryz.prog 4 #[.slice a V.length c, .string (bs one)] w (LawPost w) := by
  have HEA := Lib.hid fun w' (hx : Ext w w') => Entries_any V a c S w' (hv.ext hx) (by omega)
  have HV := Lib.hid fun w' (hx : Ext w w') => hv.ext hx
  have HMV := Lib.hid (show V.length ≤ 9223372036854775807 by have h1 := hv.row.max; have h2 := hv.row.le; simp only [maxLen] at h1; omega)
  clear hv
  obtain ⟨post, hpo⟩ : ∃ q : Ending → World → Prop, q = LawPost w := ⟨_, rfl⟩
  rw [← hpo]
  have HPO := Lib.hid hpo
  clear hpo
  go_enter Tryz.func4, Tryz.ntmps4
  go_upto_region 3 with (first
    | (go_at_call 5; (with_reducible refine (awake_any _).mono ?_); rintro en w1 ⟨rfl, hx1⟩; have HX1 := Lib.hid hx1; clear hx1)
    | fail)
  by_cases hb1 : 17 < V.length
  · have hd : decide ((17 : Int) < V.length) = true := decide_eq_true (by omega)
    go_wp2
    rw [HPO.out]
    exact ⟨rfl, HX1.out⟩
  have hd1 : decide ((17 : Int) < V.length) = false := decide_eq_false (by omega)
  by_cases hb3 : 200 < one.length
  · have hd : decide ((200 : Int) < one.length) = true := decide_eq_true (by omega)
    go_wp2
    rw [HPO.out]
    exact ⟨rfl, HX1.out⟩
  have hd3 : decide ((200 : Int) < one.length) = false := decide_eq_false (by omega)
  go_upto_region 6 with (first
    | (go_at_call 6; (with_reducible refine (HEA.out _ HX1.out).mono ?_); rintro en w3 ⟨x1, n1, k1, e1, rfl, h1, hx2⟩; have H1 := Lib.hid h1; have HX3 := Lib.hid (HX1.out.trans' hx2); clear h1 hx2)
    | fail)
  clear hd1 hd3 HEA
  by_cases he1 : e1 = 0
  case neg =>
    obtain ⟨q1, q2⟩ := neI (x := (e1 : Int)) (y := 0) (by omega)
    go_wp2
    rw [HPO.out]
    exact ⟨rfl, HX3.out⟩
  subst he1
  obtain ⟨hov, A, rfl, hEA, hOA⟩ := H1.out rfl
  have HOV := Lib.hid hov
  have HRA := Lib.hid hEA
  have HIA := Lib.hid hOA.i
  clear H1 hov hEA hOA
  have HIV := Lib.hid (Inverse_any A x1 k1 (S + S) w3 HIA.out (by omega))
  by_cases hb4 : 8 < A.length
  · have hd : decide ((8 : Int) < A.length) = true := decide_eq_true (by omega)
    go_wp2
    rw [HPO.out]
    exact ⟨rfl, HX3.out⟩
  have hd4 : decide ((8 : Int) < A.length) = false := decide_eq_false (by omega)
  go_upto_region 9 with (first
    | (go_at_call 8; (with_reducible refine HIV.out.mono ?_); rintro en w4 ⟨x3, n3, k3, e3, rfl, h1, hx4⟩; have H3 := Lib.hid h1; have HY4 := Lib.hid hx4; have HX4 := Lib.hid (HX3.out.trans' hx4); clear h1 hx4)
    | fail)
  clear hd4 HIV
  by_cases he3 : e3 = 0
  case neg =>
    obtain ⟨q1, q2⟩ := neI (x := (e3 : Int)) (y := 0) (by omega)
    go_wp2
    rw [HPO.out]
    exact ⟨rfl, HX4.out⟩
  subst he3
  obtain ⟨-, M, rfl, hinv, hom⟩ := H3.out rfl
  have HRI := Lib.hid hinv
  have HIM := Lib.hid hom.i
  clear H3 hinv hom
  have HIB := Lib.hid ((HIA.out.ext HY4.out).mono (show S + S ≤ S + S + (S + S) by omega))
  have HCP := Lib.hid (Compose_any A M x1 x3 k1 k3 (S + S + (S + S)) w4 HIB.out HIM.out (by omega))
  go_upto_region 12 with (first
    | (go_at_call 9; (with_reducible refine HCP.out.mono ?_); rintro en w5 ⟨x4, n4, k4, e4, rfl, h1, hx4⟩; have H4 := Lib.hid h1; have HY5 := Lib.hid hx4; have HX5 := Lib.hid (HX4.out.trans' hx4); clear h1 hx4)
    | fail)
  clear HCP
  have HCP := Lib.hid (Compose_any M A x3 x1 k3 k1 (S + S + (S + S)) w5 (HIM.out.ext HY5.out) (HIB.out.ext HY5.out) (by omega))
  go_upto_region 13 with (first
    | (go_at_call 9; (with_reducible refine HCP.out.mono ?_); rintro en w6 ⟨x5, n5, k5, e5, rfl, h1, hx4⟩; have H5 := Lib.hid h1; have HY6 := Lib.hid hx4; have HX6 := Lib.hid (HX5.out.trans' hx4); clear h1 hx4)
    | fail)
  clear HCP
  by_cases hf : e4 = 0 ∧ e5 = 0
  case neg =>
    go_wp2_with (first
      | (go_at_call 7; (with_reducible refine (fine_two e4 e5 _).mono ?_); rintro en w9 ⟨q, rfl, hq, hx9⟩; obtain rfl : q = false := (by cases q with | false => rfl | true => exact absurd (hq.1 rfl) hf); have HX9 := Lib.hid (HX6.out.trans' hx9); clear hq hx9)
      | fail)
    rw [HPO.out]
    exact ⟨rfl, HX9.out⟩
  obtain ⟨rfl, rfl⟩ := hf
  obtain ⟨hoa, -, L, rfl, hcl, hol⟩ := H4.out rfl
  obtain ⟨hob, -, R, rfl, hcr, hor⟩ := H5.out rfl
  have HBA := Lib.hid hoa
  have HBB := Lib.hid hob
  have HRL := Lib.hid hcl
  have HRR := Lib.hid hcr
  have HIL := Lib.hid (hol.i.ext HY6.out)
  have HIR := Lib.hid hor.i
  clear H4 H5 hoa hob hcl hcr hol hor
  have HSL := Lib.hid fun w' (hx : Ext w6 w') => sound_any L x4 k4 (S + S + (S + S) + (S + S + (S + S))) w' (HIL.out.ext hx) (by omega)
  have HSR := Lib.hid fun w' (hx : Ext w6 w') => sound_any R x5 k5 (S + S + (S + S) + (S + S + (S + S))) w' (HIR.out.ext hx) (by omega)
  by_cases hsl : OkMm L
  case neg =>
    go_wp2_with (first
      | (go_at_call 7; (refine (show Calls Tryz.prog 7 #[.slice (some ⟨w6.heap.size, 0, none⟩) 2 2] (w6.alloc (.cells #[.int .i64 0, .int .i64 0] 25)) (PrO (0 = 0 ∧ 0 = 0) w6) from fine_two 0 0 w6).mono ?_); rintro en w9 ⟨q, rfl, hq, hx9⟩; obtain rfl : q = true := hq.2 ⟨rfl, rfl⟩; have HY9 := Lib.hid hx9; have HX9 := Lib.hid (HX6.out.trans' hx9); clear hq hx9)
      | (go_at_call 10; (with_reducible refine (HSL.out _ HY9.out).mono ?_); rintro en w7 ⟨q, rfl, hq, hx6⟩; obtain rfl : q = false := (by cases q with | false => rfl | true => exact absurd (hq.1 rfl) hsl); have HX7 := Lib.hid (HX9.out.trans' hx6); clear hq hx6)
      | fail)
    rw [HPO.out]
    exact ⟨rfl, HX7.out⟩
  by_cases hsr : OkMm R
  case neg =>
    go_wp2_with (first
      | (go_at_call 7; (refine (show Calls Tryz.prog 7 #[.slice (some ⟨w6.heap.size, 0, none⟩) 2 2] (w6.alloc (.cells #[.int .i64 0, .int .i64 0] 25)) (PrO (0 = 0 ∧ 0 = 0) w6) from fine_two 0 0 w6).mono ?_); rintro en w9 ⟨q, rfl, hq, hx9⟩; obtain rfl : q = true := hq.2 ⟨rfl, rfl⟩; have HY9 := Lib.hid hx9; have HX9 := Lib.hid (HX6.out.trans' hx9); clear hq hx9)
      | (go_at_call 10; (with_reducible refine (HSL.out _ HY9.out).mono ?_); clear HSL; rintro en w7 ⟨q, rfl, hq, hx6⟩; obtain rfl : q = true := hq.2 hsl; have HY7 := Lib.hid (HY9.out.trans' hx6); have HX7 := Lib.hid (HX9.out.trans' hx6); clear hq hx6)
      | (go_at_call 10; (with_reducible refine (HSR.out _ HY7.out).mono ?_); rintro en w8 ⟨q, rfl, hq, hx6⟩; obtain rfl : q = false := (by cases q with | false => rfl | true => exact absurd (hq.1 rfl) hsr); have HX8 := Lib.hid (HX7.out.trans' hx6); clear hq hx6)
      | fail)
    rw [HPO.out]
    exact ⟨rfl, HX8.out⟩
  have HFL := Lib.hid fun w' (hx : Ext w6 w') => MForward_any L x4 k4 (S + S + (S + S) + (S + S + (S + S))) 200 one w' (HIL.out.ext hx) (by omega) (by omega) (by omega) hsl
  have HFR := Lib.hid fun w' (hx : Ext w6 w') => MForward_any R x5 k5 (S + S + (S + S) + (S + S + (S + S))) 200 one w' (HIR.out.ext hx) (by omega) (by omega) (by omega) hsr
  have HBW := Lib.hid fun w' (hx : Ext w w') => VBackward_any V a c S 200 one w' (HV.out w' hx) (by omega) (by omega) (by omega) HOV.out
  have HVF := Lib.hid fun w' (hx : Ext w w') => VForward_any V a c S 200 one w' (HV.out w' hx) (by omega) (by omega) (by omega) HOV.out
  go_upto_region 17 with (first
    | (go_at_call 7; (refine (show Calls Tryz.prog 7 #[.slice (some ⟨w6.heap.size, 0, none⟩) 2 2] (w6.alloc (.cells #[.int .i64 0, .int .i64 0] 25)) (PrO (0 = 0 ∧ 0 = 0) w6) from fine_two 0 0 w6).mono ?_); rintro en w9 ⟨q, rfl, hq, hx9⟩; obtain rfl : q = true := hq.2 ⟨rfl, rfl⟩; have HY9 := Lib.hid hx9; have HX9 := Lib.hid (HX6.out.trans' hx9); clear hq hx9)
    | (go_at_call 10; (with_reducible refine (HSL.out _ HY9.out).mono ?_); clear HSL; rintro en w7 ⟨q, rfl, hq, hx6⟩; obtain rfl : q = true := hq.2 hsl; have HY7 := Lib.hid (HY9.out.trans' hx6); have HX7 := Lib.hid (HX9.out.trans' hx6); clear hq hx6)
    | (go_at_call 10; (with_reducible refine (HSR.out _ HY7.out).mono ?_); rintro en w8 ⟨q, rfl, hq, hx6⟩; obtain rfl : q = true := hq.2 hsr; have HY8 := Lib.hid (HY7.out.trans' hx6); have HX8 := Lib.hid (HX7.out.trans' hx6); clear hq hx6)
    | (go_at_call 11; (with_reducible refine (HFL.out _ HY8.out).mono ?_); rintro en wa ⟨s, ok, rfl, h1, -, hx7⟩; have HF1 := Lib.hid h1; have HYA := Lib.hid (HY8.out.trans' hx7); have HXA := Lib.hid (HX8.out.trans' hx7); clear h1 hx7)
    | (go_at_call 13; (with_reducible refine (HVF.out _ HXA.out).mono ?_); rintro en wb ⟨p, is, rfl, h1, -, hx8⟩; have HF2 := Lib.hid h1; have HYB := Lib.hid (HYA.out.trans' hx8); have HXB := Lib.hid (HXA.out.trans' hx8); clear h1 hx8)
    | fail)
  clear HFL HVF HSR
  obtain ⟨rfl, hts⟩ := round_left HRA.out HRI.out HRL.out (back_path HBA.out) HF1.out HF2.out
  have HTS := Lib.hid hts
  clear hts
  cases ok with
  | false =>
    go_upto_region 21 with (first
      | (go_at_call 11; (with_reducible refine (HFR.out _ HYB.out).mono ?_); rintro en wc ⟨t, ok2, rfl, h1, -, hx7⟩; have HF3 := Lib.hid h1; have HXC := Lib.hid (HXB.out.trans' hx7); clear h1 hx7)
      | (go_at_call 12; (with_reducible refine (HBW.out _ HXC.out).mono ?_); rintro en wd ⟨u, is2, rfl, h1, -, hx8⟩; have HF4 := Lib.hid h1; have HXD := Lib.hid (HXC.out.trans' hx8); clear h1 hx8)
      | fail)
    obtain ⟨rfl, hts⟩ := round_right HRA.out HRI.out HRR.out (back_path HBB.out) HF3.out HF4.out
    cases ok2 with
    | false =>
      clear hts
      go_wp2
      rw [HPO.out]
      exact ⟨rfl, HXD.out⟩
    | true =>
      obtain rfl := hts rfl
      clear hts
      go_wp2
      rw [HPO.out]
      exact ⟨rfl, HXD.out⟩
  | true =>
    obtain rfl := HTS.out rfl
    go_upto_region 21 with (first
      | (go_at_call 11; (with_reducible refine (HFR.out _ HYB.out).mono ?_); rintro en wc ⟨t, ok2, rfl, h1, -, hx7⟩; have HF3 := Lib.hid h1; have HXC := Lib.hid (HXB.out.trans' hx7); clear h1 hx7)
      | (go_at_call 12; (with_reducible refine (HBW.out _ HXC.out).mono ?_); rintro en wd ⟨u, is2, rfl, h1, -, hx8⟩; have HF4 := Lib.hid h1; have HXD := Lib.hid (HXC.out.trans' hx8); clear h1 hx8)
      | fail)
    obtain ⟨rfl, hts⟩ := round_right HRA.out HRI.out HRR.out (back_path HBB.out) HF3.out HF4.out
    cases ok2 with
    | false =>
      clear hts
      go_wp2
      rw [HPO.out]
      exact ⟨rfl, HXD.out⟩
    | true =>
      obtain rfl := hts rfl
      clear hts
      go_wp2
      rw [HPO.out]
      exact ⟨rfl, HXD.out⟩
end Go.Proofs.YtejljmikammcdaaGreatDoor
