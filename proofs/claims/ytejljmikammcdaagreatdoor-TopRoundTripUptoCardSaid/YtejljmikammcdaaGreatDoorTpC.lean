/-
  The law TopTwoClients, walked: it answers true.
-/
import Derived.Test.YtejljmikammcdaaGreatDoorJoined14
import Derived.Test.YtejljmikammcdaaGreatDoorMaK
namespace Go.Proofs.YtejljmikammcdaaGreatDoor
open Go.RowKit Go.WideMaps

theorem back_path {m : List En} (h : OkMm m) : ∀ xs ys, PathOk xs → relM (m.map En.E) xs ys → PathOk ys := by
  rintro xs ys hx ⟨e, he, h1, -⟩
  obtain ⟨k, hk, rfl⟩ := List.mem_map.1 he
  exact rel_path (h.each k hk).1.right hx h1
set_option maxRecDepth 100000 in
set_option maxHeartbeats 8000000 in
theorem TopTwoClients_walk (V W2 : List Rl) (a : Option Addr) (c : Nat) (a2 : Option Addr) (c2 S : Nat) (one : Str) (w : World) (hv : RlsI w S a c V) (hw : RlsI w S a2 c2 W2) (hS : S ≤ 1048576) :
    Calls Tryz.prog 3 #[.slice a V.length c, .slice a2 W2.length c2, .string (bs one)] w (LawPost w) := by
  have HEA := Lib.hid fun w' (hx : Ext w w') => Entries_any V a c S w' (hv.ext hx) (by omega)
  have HEB := Lib.hid fun w' (hx : Ext w w') => Entries_any W2 a2 c2 S w' (hw.ext hx) (by omega)
  have HV := Lib.hid fun w' (hx : Ext w w') => hv.ext hx
  have HW := Lib.hid fun w' (hx : Ext w w') => hw.ext hx
  have HMV := Lib.hid (show V.length ≤ 9223372036854775807 by have h1 := hv.row.max; have h2 := hv.row.le; simp only [maxLen] at h1; omega)
  have HMW := Lib.hid (show W2.length ≤ 9223372036854775807 by have h1 := hw.row.max; have h2 := hw.row.le; simp only [maxLen] at h1; omega)
  clear hv hw
  obtain ⟨post, hpo⟩ : ∃ q : Ending → World → Prop, q = LawPost w := ⟨_, rfl⟩
  rw [← hpo]
  have HPO := Lib.hid hpo
  clear hpo
  go_enter Tryz.func3, Tryz.ntmps3
  go_upto_region 3 with (first
    | (go_at_call 5; (with_reducible refine (awake_any _).mono ?_); rintro en w1 ⟨rfl, hx1⟩; have HX1 := Lib.hid hx1; clear hx1)
    | fail)
  by_cases hb1 : 17 < V.length
  · have hd : decide ((17 : Int) < V.length) = true := decide_eq_true (by omega)
    go_wp2
    rw [HPO.out]
    exact ⟨rfl, HX1.out⟩
  have hd1 : decide ((17 : Int) < V.length) = false := decide_eq_false (by omega)
  by_cases hb2 : 17 < W2.length
  · have hd : decide ((17 : Int) < W2.length) = true := decide_eq_true (by omega)
    go_wp2
    rw [HPO.out]
    exact ⟨rfl, HX1.out⟩
  have hd2 : decide ((17 : Int) < W2.length) = false := decide_eq_false (by omega)
  by_cases hb3 : 200 < one.length
  · have hd : decide ((200 : Int) < one.length) = true := decide_eq_true (by omega)
    go_wp2
    rw [HPO.out]
    exact ⟨rfl, HX1.out⟩
  have hd3 : decide ((200 : Int) < one.length) = false := decide_eq_false (by omega)
  go_upto_region 6 with (first
    | (go_at_call 6; (with_reducible refine (HEA.out _ HX1.out).mono ?_); rintro en w2 ⟨x1, n1, k1, e1, rfl, h1, hx2⟩; have H1 := Lib.hid h1; have HX2 := Lib.hid (HX1.out.trans' hx2); clear h1 hx2)
    | fail)
  go_upto_region 7 with (first
    | (go_at_call 6; (with_reducible refine (HEB.out _ HX2.out).mono ?_); rintro en w3 ⟨x2, n2, k2, e2, rfl, h1, hx2⟩; have H2 := Lib.hid h1; have HY3 := Lib.hid hx2; have HX3 := Lib.hid (HX2.out.trans' hx2); clear h1 hx2)
    | fail)
  clear hd1 hd2 hd3 HEA HEB
  by_cases hf : e1 = 0 ∧ e2 = 0
  case neg =>
    go_wp2_with (first
      | (go_at_call 7; (with_reducible refine (fine_two e1 e2 _).mono ?_); rintro en w9 ⟨q, rfl, hq, hx9⟩; obtain rfl : q = false := (by cases q with | false => rfl | true => exact absurd (hq.1 rfl) hf); have HX9 := Lib.hid (HX3.out.trans' hx9); clear hq hx9)
      | fail)
    rw [HPO.out]
    exact ⟨rfl, HX9.out⟩
  obtain ⟨rfl, rfl⟩ := hf
  obtain ⟨hov, A, rfl, hEA, hOA⟩ := H1.out rfl
  obtain ⟨how, B, rfl, hEB, hOB⟩ := H2.out rfl
  have HOV := Lib.hid hov
  have HOW := Lib.hid how
  have HRA := Lib.hid hEA
  have HRB := Lib.hid hEB
  have HIA := Lib.hid (hOA.i.ext HY3.out)
  have HIB := Lib.hid hOB.i
  clear H1 H2 hov how hEA hEB hOA hOB HY3
  have HIV := Lib.hid fun w' (hx : Ext w3 w') => Inverse_any A x1 k1 (S + S) w' (HIA.out.ext hx) (by omega)
  by_cases hb4 : 8 < A.length
  · have hd : decide ((8 : Int) < A.length) = true := decide_eq_true (by omega)
    go_wp2_with (first
      | (go_at_call 7; (refine (show Calls Tryz.prog 7 #[.slice (some ⟨w3.heap.size, 0, none⟩) 2 2] (w3.alloc (.cells #[.int .i64 0, .int .i64 0] 25)) (PrO (0 = 0 ∧ 0 = 0) w3) from fine_two 0 0 w3).mono ?_); rintro en w9 ⟨q, rfl, hq, hx9⟩; obtain rfl : q = true := hq.2 ⟨rfl, rfl⟩; have HY9 := Lib.hid hx9; have HX9 := Lib.hid (HX3.out.trans' hx9); clear hq hx9)
      | fail)
    rw [HPO.out]
    exact ⟨rfl, HX9.out⟩
  have hd4 : decide ((8 : Int) < A.length) = false := decide_eq_false (by omega)
  by_cases hb5 : 8 < B.length
  · have hd : decide ((8 : Int) < B.length) = true := decide_eq_true (by omega)
    go_wp2_with (first
      | (go_at_call 7; (refine (show Calls Tryz.prog 7 #[.slice (some ⟨w3.heap.size, 0, none⟩) 2 2] (w3.alloc (.cells #[.int .i64 0, .int .i64 0] 25)) (PrO (0 = 0 ∧ 0 = 0) w3) from fine_two 0 0 w3).mono ?_); rintro en w9 ⟨q, rfl, hq, hx9⟩; obtain rfl : q = true := hq.2 ⟨rfl, rfl⟩; have HY9 := Lib.hid hx9; have HX9 := Lib.hid (HX3.out.trans' hx9); clear hq hx9)
      | fail)
    rw [HPO.out]
    exact ⟨rfl, HX9.out⟩
  have hd5 : decide ((8 : Int) < B.length) = false := decide_eq_false (by omega)
  go_upto_region 10 with (first
    | (go_at_call 7; (refine (show Calls Tryz.prog 7 #[.slice (some ⟨w3.heap.size, 0, none⟩) 2 2] (w3.alloc (.cells #[.int .i64 0, .int .i64 0] 25)) (PrO (0 = 0 ∧ 0 = 0) w3) from fine_two 0 0 w3).mono ?_); rintro en w9 ⟨q, rfl, hq, hx9⟩; obtain rfl : q = true := hq.2 ⟨rfl, rfl⟩; have HY9 := Lib.hid hx9; have HX9 := Lib.hid (HX3.out.trans' hx9); clear hq hx9)
    | (go_at_call 8; (with_reducible refine (HIV.out _ HY9.out).mono ?_); rintro en w4 ⟨x3, n3, k3, e3, rfl, h1, hx4⟩; have H3 := Lib.hid h1; have HY4 := Lib.hid (HY9.out.trans' hx4); have HX4 := Lib.hid (HX9.out.trans' hx4); clear h1 hx4)
    | fail)
  clear hd4 hd5 HIV
  by_cases he3 : e3 = 0
  case neg =>
    obtain ⟨q1, q2⟩ := neI (x := (e3 : Int)) (y := 0) (by omega)
    go_wp2
    rw [HPO.out]
    exact ⟨rfl, HX4.out⟩
  subst he3
  obtain ⟨-, M, rfl, hinv, hom⟩ := H3.out rfl
  have HRI := Lib.hid hinv
  have HIM := Lib.hid hom.i
  clear H3 hinv hom
  have HCP := Lib.hid (Compose_any M B x3 x2 k3 k2 (S + S + (S + S)) w4 HIM.out ((HIB.out.ext HY4.out).mono (by omega)) (by omega))
  go_upto_region 13 with (first
    | (go_at_call 9; (with_reducible refine HCP.out.mono ?_); rintro en w5 ⟨x4, n4, k4, e4, rfl, h1, hx4⟩; have H4 := Lib.hid h1; have HX5 := Lib.hid (HX4.out.trans' hx4); clear h1 hx4)
    | fail)
  clear HCP
  by_cases he4 : e4 = 0
  case neg =>
    obtain ⟨q1, q2⟩ := neI (x := (e4 : Int)) (y := 0) (by omega)
    go_wp2
    rw [HPO.out]
    exact ⟨rfl, HX5.out⟩
  subst he4
  obtain ⟨hbk, -, R, rfl, hcmp, hor⟩ := H4.out rfl
  have HBK := Lib.hid hbk
  have HRC := Lib.hid hcmp
  have HIR := Lib.hid hor.i
  have HSD := Lib.hid (sound_any R x4 k4 (S + S + (S + S) + (S + S + (S + S))) w5 hor.i (by omega))
  clear H4 hbk hcmp hor
  by_cases hsd : OkMm R
  case neg =>
    go_wp2_with (first
      | (go_at_call 10; (with_reducible refine HSD.out.mono ?_); rintro en w6 ⟨q, rfl, hq, hx6⟩; obtain rfl : q = false := (by cases q with | false => rfl | true => exact absurd (hq.1 rfl) hsd); have HX6 := Lib.hid (HX5.out.trans' hx6); clear hq hx6)
      | fail)
    rw [HPO.out]
    exact ⟨rfl, HX6.out⟩
  have HFW := Lib.hid fun w' (hx : Ext w5 w') => MForward_any R x4 k4 (S + S + (S + S) + (S + S + (S + S))) 200 one w' (HIR.out.ext hx) (by omega) (by omega) (by omega) hsd
  have HBW := Lib.hid fun w' (hx : Ext w w') => VBackward_any V a c S 200 one w' (HV.out w' hx) (by omega) (by omega) (by omega) HOV.out
  have HVF := Lib.hid fun (p : Str) w' (hx : Ext w w') (hp : p.length ≤ 12 * (S + 200 + 1) + 200 + 2) => VForward_any W2 a2 c2 S (12 * (S + 200 + 1) + 200 + 2) p w' (HW.out w' hx) (by omega) hp (by omega) HOW.out
  go_upto_region 16 with (first
    | (go_at_call 10; (with_reducible refine HSD.out.mono ?_); rintro en w6 ⟨q, rfl, hq, hx6⟩; obtain rfl : q = true := hq.2 hsd; have HY6 := Lib.hid hx6; have HX6 := Lib.hid (HX5.out.trans' hx6); clear hq hx6)
    | (go_at_call 11; (with_reducible refine (HFW.out _ HY6.out).mono ?_); rintro en w7 ⟨two, ok, rfl, h1, -, hx7⟩; have HF1 := Lib.hid h1; have HX7 := Lib.hid (HX6.out.trans' hx7); clear h1 hx7)
    | fail)
  clear HSD HFW
  go_upto_region 17 with (first
    | (go_at_call 12; (with_reducible refine (HBW.out _ HX7.out).mono ?_); rintro en w8 ⟨p, is, rfl, h1, h2, hx8⟩; have HF2 := Lib.hid h1; have HLP := Lib.hid h2; have HX8 := Lib.hid (HX7.out.trans' hx8); clear h1 h2 hx8)
    | fail)
  clear HBW
  cases is with
  | false =>
    have h := two_clients (q := []) (has := false) HRA.out HRB.out HRI.out HRC.out HF1.out HF2.out (fun h => nomatch h) (back_path HBK.out)
    rw [if_neg (by decide)] at h
    subst h
    go_wp2
    rw [HPO.out]
    exact ⟨rfl, HX8.out⟩
  | true =>
    go_upto_region 20 with (first
      | (go_at_call 13; (with_reducible refine (HVF.out p _ HX8.out HLP.out).mono ?_); rintro en w10 ⟨q, has, rfl, h1, -, hx8⟩; have HF3 := Lib.hid h1; have HX10 := Lib.hid (HX8.out.trans' hx8); clear h1 hx8)
      | fail)
    have h := two_clients HRA.out HRB.out HRI.out HRC.out HF1.out HF2.out (fun _ => HF3.out) (back_path HBK.out)
    rw [if_pos rfl] at h
    obtain ⟨rfl, rfl⟩ := h
    cases ok with
    | false =>
      go_wp2
      rw [HPO.out]
      exact ⟨rfl, HX10.out⟩
    | true =>
      go_wp2
      rw [HPO.out]
      exact ⟨rfl, HX10.out⟩
end Go.Proofs.YtejljmikammcdaaGreatDoor
