/-
  Layer pattern: Inside, Within.
-/
import Derived.Test.YtejljmikammcdaaGreatDoorJoined5
import Derived.Deep.CutBlock
namespace Go.Proofs.YtejljmikammcdaaGreatDoor
open Go.RowKit

/-! ### Inside, Within -/
theorem inside_all : ∀ (ps : List Str) (pr : Bool) (qs : List Str) (qr : Bool), (if qr then qs.length < ps.length ∨ (qs.length = ps.length ∧ pr = true) else qs.length = ps.length ∧ pr = false) →
    (insideL ps pr qs qr = true ↔ ∀ (i : Nat) p q, ps[i]? = some p → qs[i]? = some q → within1 p q = true)
  | ps, pr, [], qr, h => by
    have : insideL ps pr [] qr = true := by
      unfold insideL
      cases qr with
      | true =>
        rw [if_pos rfl] at h ⊢
        rcases h with h | ⟨-, rfl⟩
        · cases ps with
          | nil => simp at h
          | cons => rfl
        · simp
      | false =>
        rw [if_neg (by decide)] at h ⊢
        obtain ⟨h1, rfl⟩ := h
        rw [List.eq_nil_of_length_eq_zero h1.symm]; rfl
    rw [this]
    exact ⟨(fun _ i p q _ h => by cases h), fun _ => rfl⟩
  | [], pr, b :: qs, qr, h => by cases qr <;> simp at h
  | a :: ps, pr, b :: qs, qr, h => by
    have ih := inside_all ps pr qs qr (by cases qr <;> simp at h ⊢ <;> omega)
    unfold insideL
    rw [Bool.and_eq_true, ih]
    constructor
    · rintro ⟨h1, h2⟩ i p q hp hq
      cases i with
      | zero => cases hp; cases hq; exact h1
      | succ i => exact h2 i p q (by simpa using hp) (by simpa using hq)
    · intro h
      exact ⟨h 0 a b rfl rfl, fun i p q hp hq => h (i + 1) p q (by simpa using hp) (by simpa using hq)⟩
theorem inside_len : ∀ (ps : List Str) (pr : Bool) (qs : List Str) (qr : Bool), insideL ps pr qs qr = true → (if qr then qs.length < ps.length ∨ (qs.length = ps.length ∧ pr = true) else qs.length = ps.length ∧ pr = false)
  | ps, pr, [], qr, h => by
    unfold insideL at h
    cases qr with
    | true =>
      rw [if_pos rfl] at h ⊢
      rw [Bool.or_eq_true] at h
      cases ps with
      | nil =>
        rcases h with h | h
        · cases h
        · exact .inr ⟨rfl, h⟩
      | cons => exact .inl (by simp)
    | false =>
      rw [if_neg (by decide)] at h ⊢
      rw [Bool.and_eq_true] at h
      exact ⟨by rw [List.isEmpty_iff.1 h.1], by simpa using h.2⟩
  | [], pr, b :: qs, qr, h => by cases h
  | a :: ps, pr, b :: qs, qr, h => by
    unfold insideL at h
    rw [Bool.and_eq_true] at h
    have ih := inside_len ps pr qs qr h.2
    cases qr <;> simp at ih ⊢ <;> omega

def InsRel (w : World) (ps qs : List Str) (i : Value) (wr : World) : Prop := ∃ j : Nat, i = .int .i64 j ∧ j ≤ qs.length ∧ (∀ (i : Nat) p q, i < j → ps[i]? = some p → qs[i]? = some q → within1 p q = true) ∧ Ext w wr
set_option maxRecDepth 100000 in
set_option maxHeartbeats 4000000 in
theorem Inside_any (k g : Pt) (S : Nat) (w : World) (hk : PtI w S k) (hg : PtI w S g) (hS : S < 4611686018427387904) :
    Calls Tryz.prog 51 #[k.v, g.v] w (NewNone (.bool (insideL k.P.parts k.P.rest g.P.parts g.P.rest)) w) := by
  obtain ⟨a, n, c, ⟨ps, pr⟩⟩ := k
  obtain ⟨a', m, c', ⟨qs, qr⟩⟩ := g
  have hn : ps.length = n := hk.len
  have hm : qs.length = m := hg.len
  have HN := Lib.hid hn
  have HM := Lib.hid hm
  have HRK := Lib.hid fun w' (h : Ext w w') => (show Row w' a n c 1 (ps.map sv) from hk.row.ext h)
  have HRG := Lib.hid fun w' (h : Ext w w') => (show Row w' a' m c' 1 (qs.map sv) from hg.row.ext h)
  have HSK := Lib.hid (show ∀ p ∈ ps, p.length ≤ S from hk.small)
  have HSG := Lib.hid (show ∀ p ∈ qs, p.length ≤ S from hg.small)
  have hmx : n ≤ 9223372036854775807 := by have h1 := hk.row.max; have h2 := hk.row.le; simp only [maxLen] at h1; simp only at h2; omega
  have hmy : m ≤ 9223372036854775807 := by have h1 := hg.row.max; have h2 := hg.row.le; simp only [maxLen] at h1; simp only at h2; omega
  obtain ⟨r, hr⟩ : ∃ r, r = insideL ps pr qs qr := ⟨_, rfl⟩
  show Calls _ _ _ _ (NewNone (.bool (insideL ps pr qs qr)) w)
  rw [← hr]
  have HR := Lib.hid hr
  clear hr hk hg hn hm
  go_enter Tryz.func51, Tryz.ntmps51
  go_upto_region 1 with fail
  obtain ⟨hx2, hh1, hh2⟩ := two_boxes w #[.slice a n c, .bool pr] #[.slice a' m c', .bool qr] 39 39
  generalize (w.alloc (.cells #[.slice a n c, .bool pr] 39)).alloc (.cells #[.slice a' m c', .bool qr] 39) = w2 at hx2 hh1 hh2 ⊢
  generalize w.heap.size = b at hh1 hh2 ⊢
  have HX := Lib.hid hx2
  have HB0 := Lib.hid fun w' (h : Ext w2 w') => cell_of_row w' b 0 _ _ _ (h.heap' hh1)
  have HC0 := Lib.hid fun w' (h : Ext w2 w') => cell_of_row w' (b + 1) 0 _ _ _ (h.heap' hh2)
  have HH1 := Lib.hid hh1
  have HH2 := Lib.hid hh2
  have E2 := Lib.hid (Ext.drew' w2)
  clear hx2 hh1 hh2
  refine wp_region_e [] (.qs [0, 1, 2, 3, 4, 5, 6, 7] .nil) (by kernel_rfl) (by kernel_rfl) ?_
  ((refine wpY_q rfl rfl _ (fun w' hx' => by go_simp; try rfl) ?_; go_simp))
  refine wpY_q rfl rfl (.slice a n c) (fun w' hx' => by have hb' := HB0.out w' hx'; go_simp; try rfl) ?_
  go_simp
  iterate 2 ((refine wpY_q rfl rfl _ (fun w' hx' => by go_simp; try rfl) ?_; go_simp))
  refine wpY_q rfl rfl (.slice a' m c') (fun w' hx' => by have hb' := HC0.out w' hx'; go_simp; try rfl) ?_
  go_simp
  iterate 3 ((refine wpY_q rfl rfl _ (fun w' hx' => by go_simp; try rfl) ?_; go_simp))
  refine wpY_nil ?_
  obtain ⟨c0, c1, -⟩ := box2 ((E2.out).heap' HH1.out)
  obtain ⟨d0, d1, -⟩ := box2 ((E2.out).heap' HH2.out)
  have HX3 := Lib.hid (HX.out.trans' E2.out)
  generalize w2.drew = w3 at c0 c1 d0 d1 HX3 ⊢
  clear HB0 HC0 HH1 HH2 E2 HX
  by_cases hgood : (if qr then m < n ∨ (m = n ∧ pr = true) else m = n ∧ pr = false)
  · have HALL := Lib.hid (inside_all ps pr qs qr (by rw [HN.out, HM.out]; exact hgood))
    have hmn : m ≤ n := by cases qr <;> simp at hgood <;> omega
    have q1 := (eqI (x := (n : Int)) (y := (n : Int)) rfl)
    go_upto_block 0 with fail
    go_cut [] from 15 (fun w' => w' = w3)
    case first =>
      cases qr with
      | true =>
        rw [if_pos rfl] at hgood
        rcases hgood with hgood | ⟨rfl, rfl⟩
        · obtain ⟨q3, q4⟩ := neI (x := (n : Int)) (y := (m : Int)) (by omega)
          cases pr <;> go_wp2 <;> go_meet <;> rfl
        · go_wp2
          go_meet
          rfl
      | false =>
        rw [if_neg (by decide)] at hgood
        obtain ⟨rfl, rfl⟩ := hgood
        obtain ⟨q3, q4⟩ := q1
        go_wp2
        go_meet
        rfl
    obtain rfl := hcut
    clear hgood q1
    have HC0 := Lib.hid fun w' (h : Ext wc w') => h.cell' c0
    clear d1 c1 c0
    go_upto_region 7 with fail
    clear d0
    go_loopw [50] (InsRel wc ps qs) (fun i _ => m - (intOf i).toNat)
    case atStart => exact ⟨0, rfl, Nat.zero_le _, fun i p q hi => by omega, Below.refl _ _⟩
    case round =>
      obtain ⟨j, rfl, hj, hst, hx⟩ := hrel
      rename World => wd
      have HST := Lib.hid hst
      have HXD := Lib.hid (show Ext wc wd from hx)
      have hj' : j ≤ m := by rw [← HM.out]; exact hj
      clear hst hj hx
      by_cases hjl : j < m
      · obtain ⟨q, hq⟩ : ∃ q, qs[j]? = some q := ⟨_, List.getElem?_eq_getElem (by rw [HM.out]; exact hjl)⟩
        obtain ⟨p, hp⟩ : ∃ p, ps[j]? = some p := ⟨_, List.getElem?_eq_getElem (by rw [HN.out]; omega)⟩
        have HP := Lib.hid hp
        have HQ := Lib.hid hq
        have HPW := Lib.hid (PartWithin_any p q wd (Nat.lt_of_le_of_lt (HSK.out p (List.mem_of_getElem? hp)) hS) (Nat.lt_of_le_of_lt (HSG.out q (List.mem_of_getElem? hq)) hS))
        have hrg := HRG.out wd (HX3.out.trans' HXD.out)
        have hrk := HRK.out wd (HX3.out.trans' HXD.out)
        have hcell := HC0.out wd HXD.out
        have hjn : j < n := by omega
        clear hp hq
        obtain ⟨bb, hb⟩ : ∃ bb, bb = within1 p q := ⟨_, rfl⟩
        rw [← hb] at HPW
        have HB := Lib.hid hb
        clear hb
        cases bb with
        | true =>
          go_wp2_with (first
            | ((with_reducible refine atSlot 53 ?_); refine wpList_of_wp rfl (owp_ix (o := ⟨some 53, _, _, _, _, _⟩) _ _ rfl Tryz.elStr rfl hrg j rfl rfl hjl ?_); intro b1 o1 hc2; have hd := sv_at HQ.out hc2; clear hc2 hrg)
            | ((with_reducible refine atSlot 58 ?_); refine wpList_of_wp rfl (owp_ix (o := ⟨some 58, _, _, _, _, _⟩) _ _ rfl Tryz.elStr rfl hrk j rfl rfl hjn ?_); intro b1 o1 hc2; have hd := sv_at HP.out hc2; clear hc2 hrk)
            | (go_at_call 82; (with_reducible refine HPW.out.mono ?_); rintro en we ⟨rfl, hxe⟩)
            | fail)
          have HREL := Lib.hid (HXD.out.trans' hxe)
          go_roundw
          case rel => exact ⟨j + 1, by go_num, by rw [HM.out]; omega, fun i p' q' hi hp' hq' => by
            by_cases hij : i = j
            · subst hij
              have e1 := HP.out; rw [e1] at hp'; cases hp'
              have e2 := HQ.out; rw [e2] at hq'; cases hq'
              exact HB.out.symm
            · exact HST.out i p' q' (by omega) hp' hq', HREL.out⟩
          case measure => simp [intOf]; omega
        | false =>
          go_wp2_with (first
            | ((with_reducible refine atSlot 53 ?_); refine wpList_of_wp rfl (owp_ix (o := ⟨some 53, _, _, _, _, _⟩) _ _ rfl Tryz.elStr rfl hrg j rfl rfl hjl ?_); intro b1 o1 hc2; have hd := sv_at HQ.out hc2; clear hc2 hrg)
            | ((with_reducible refine atSlot 58 ?_); refine wpList_of_wp rfl (owp_ix (o := ⟨some 58, _, _, _, _, _⟩) _ _ rfl Tryz.elStr rfl hrk j rfl rfl hjn ?_); intro b1 o1 hc2; have hd := sv_at HP.out hc2; clear hc2 hrk)
            | (go_at_call 82; (with_reducible refine HPW.out.mono ?_); rintro en we ⟨rfl, hxe⟩)
            | fail)
          go_ret
          refine ⟨ret_bool ?_, HX3.out.trans' (HXD.out.trans' hxe)⟩
          rw [HR.out]
          symm
          apply Bool.eq_false_iff.2
          intro h
          have := HALL.out.1 h j p q HP.out HQ.out
          rw [← HB.out] at this; cases this
      · obtain rfl : j = m := by omega
        go_wp2
        go_ret
        refine ⟨ret_bool ?_, HX3.out.trans' HXD.out⟩
        rw [HR.out]
        symm
        exact HALL.out.2 fun i p q hp hq => HST.out i p q (by rw [← HM.out]; exact (List.getElem?_eq_some_iff.1 hq).1) hp hq
  · have HRV := Lib.hid (show r = false by
      rw [HR.out]
      apply Bool.eq_false_iff.2
      intro h
      have := inside_len _ _ _ _ h
      rw [HN.out, HM.out] at this
      exact hgood this)
    cases qr with
    | true =>
      rw [if_pos rfl] at hgood
      by_cases hnm : n < m
      · go_wp2
        go_ret
        exact ⟨ret_bool HRV.out.symm, HX3.out⟩
      · have hpr : pr = false ∧ n = m := by
          constructor
          · cases pr with
            | false => rfl
            | true => exact absurd (by by_cases h : m < n; exact .inl h; exact .inr ⟨by omega, rfl⟩) hgood
          · by_cases h : m < n
            · exact absurd (.inl h) hgood
            · omega
        obtain ⟨rfl, rfl⟩ := hpr
        have q1 := (eqI (x := (n : Int)) (y := (n : Int)) rfl).1
        go_wp2
        go_ret
        exact ⟨ret_bool HRV.out.symm, HX3.out⟩
    | false =>
      rw [if_neg (by decide)] at hgood
      cases pr with
      | true =>
        go_wp2
        go_ret
        exact ⟨ret_bool HRV.out.symm, HX3.out⟩
      | false =>
        have hnm : n ≠ m := fun e => hgood ⟨e.symm, rfl⟩
        obtain ⟨q1, q2⟩ := neI (x := (n : Int)) (y := (m : Int)) (by omega)
        go_wp2
        go_ret
        exact ⟨ret_bool HRV.out.symm, HX3.out⟩
set_option maxRecDepth 100000 in
set_option maxHeartbeats 4000000 in
theorem Within_any (k g : Pt) (S : Nat) (w : World) (hk : PtI w S k) (hg : PtI w S g) (hS : S < 4611686018427387904) :
    Calls Tryz.prog 116 #[k.v, g.v] w (NewNone (.bool (okP k.P && okP g.P && insideL k.P.parts k.P.rest g.P.parts g.P.rest)) w) := by
  have HCK := Lib.hid fun w' (h : Ext w w') => Check_any k S w' (hk.ext h) hS
  have HCG := Lib.hid fun w' (h : Ext w w') => Check_any g S w' (hg.ext h) hS
  have HIN := Lib.hid fun w' (h : Ext w w') => Inside_any k g S w' (hk.ext h) (hg.ext h) hS
  obtain ⟨e, he⟩ : ∃ e, e = chkP k.P := ⟨_, rfl⟩
  obtain ⟨f, hf⟩ : ∃ f, f = chkP g.P := ⟨_, rfl⟩
  have HE := Lib.hid (show okP k.P = decide (e = 0) by rw [he]; exact Bool.eq_iff_iff.2 (by rw [decide_eq_true_eq]; exact okP_iff))
  have HF := Lib.hid (show okP g.P = decide (f = 0) by rw [hf]; exact Bool.eq_iff_iff.2 (by rw [decide_eq_true_eq]; exact okP_iff))
  rw [← he] at HCK
  rw [← hf] at HCG
  clear he hf hk hg
  obtain ⟨r, hr⟩ : ∃ r, r = (okP k.P && okP g.P && insideL k.P.parts k.P.rest g.P.parts g.P.rest) := ⟨_, rfl⟩
  rw [← hr]
  rw [HE.out, HF.out] at hr
  obtain ⟨i, hi⟩ : ∃ i, i = insideL k.P.parts k.P.rest g.P.parts g.P.rest := ⟨_, rfl⟩
  rw [← hi] at HIN hr
  have HR := Lib.hid hr
  clear hr hi HE HF
  obtain ⟨a, n, c, ⟨ps, pr⟩⟩ := k
  obtain ⟨a', m, c', ⟨qs, qr⟩⟩ := g
  go_enter Tryz.func116, Tryz.ntmps116
  go_upto_region 1 with fail
  obtain ⟨hx2, hh1, hh2⟩ := two_boxes w #[.slice a n c, .bool pr] #[.slice a' m c', .bool qr] 39 39
  generalize (w.alloc (.cells #[.slice a n c, .bool pr] 39)).alloc (.cells #[.slice a' m c', .bool qr] 39) = w2 at hx2 hh1 hh2 ⊢
  generalize w.heap.size = b at hh1 hh2 ⊢
  have HX := Lib.hid hx2
  have HRK := Lib.hid fun w' (h : Ext w2 w') => (box2 (h.heap' hh1)).2.2
  have HRG := Lib.hid fun w' (h : Ext w2 w') => (box2 (h.heap' hh2)).2.2
  have hr5 := HRK.out _ (Below.refl _ _)
  clear hx2 hh1 hh2
  by_cases he0 : e = 0
  · subst he0
    by_cases hf0 : f = 0
    · subst hf0
      go_wp2_with (first
        | ((with_reducible refine atSlot 5 ?_); refine wpList_of_wp rfl (wp_load_mid (op := ⟨some 5, _, _, _, _, _⟩) 39 _ rfl b 0 rfl [.slice a n c, .bool pr] _ hr5 Tryz.underlying39 rfl (by kernel_rfl) ?_); clear hr5)
        | ((with_reducible refine atSlot 9 ?_); refine wpList_of_wp rfl (wp_load_mid (op := ⟨some 9, _, _, _, _, _⟩) 39 _ rfl (b + 1) 0 rfl [.slice a' m c', .bool qr] _ hr9 Tryz.underlying39 rfl (by kernel_rfl) ?_); clear hr9)
        | ((with_reducible refine atSlot 14 ?_); refine wpList_of_wp rfl (wp_load_mid (op := ⟨some 14, _, _, _, _, _⟩) 39 _ rfl b 0 rfl [.slice a n c, .bool pr] _ hr14 Tryz.underlying39 rfl (by kernel_rfl) ?_); clear hr14)
        | ((with_reducible refine atSlot 15 ?_); refine wpList_of_wp rfl (wp_load_mid (op := ⟨some 15, _, _, _, _, _⟩) 39 _ rfl (b + 1) 0 rfl [.slice a' m c', .bool qr] _ hr15 Tryz.underlying39 rfl (by kernel_rfl) ?_); clear hr15)
        | (go_at_call 75; (with_reducible refine (HCK.out _ HX.out).mono ?_); rintro en w3 ⟨rfl, hx3⟩; have hr9 := HRG.out _ hx3; have HX3 := Lib.hid hx3; clear hx3 HCK)
        | (go_at_call 75; (with_reducible refine (HCG.out _ (HX.out.trans' HX3.out)).mono ?_); rintro en w4 ⟨rfl, hx4⟩; have HX4 := Lib.hid (HX3.out.trans' hx4); have hr14 := HRK.out _ HX4.out; have hr15 := HRG.out _ HX4.out; clear hx4 HCG)
        | (go_at_call 51; (with_reducible refine (HIN.out _ (HX.out.trans' HX4.out)).mono ?_); rintro en w5 ⟨rfl, hx5⟩)
        | fail)
      go_ret
      exact ⟨ret_bool (by rw [HR.out]; simp), HX.out.trans' (HX4.out.trans' hx5)⟩
    · obtain ⟨q1, q2⟩ := neI (x := (f : Int)) (y := 0) (by omega)
      go_wp2_with (first
        | ((with_reducible refine atSlot 5 ?_); refine wpList_of_wp rfl (wp_load_mid (op := ⟨some 5, _, _, _, _, _⟩) 39 _ rfl b 0 rfl [.slice a n c, .bool pr] _ hr5 Tryz.underlying39 rfl (by kernel_rfl) ?_); clear hr5)
        | ((with_reducible refine atSlot 9 ?_); refine wpList_of_wp rfl (wp_load_mid (op := ⟨some 9, _, _, _, _, _⟩) 39 _ rfl (b + 1) 0 rfl [.slice a' m c', .bool qr] _ hr9 Tryz.underlying39 rfl (by kernel_rfl) ?_); clear hr9)
        | (go_at_call 75; (with_reducible refine (HCK.out _ HX.out).mono ?_); rintro en w3 ⟨rfl, hx3⟩; have hr9 := HRG.out _ hx3; have HX3 := Lib.hid hx3; clear hx3 HCK)
        | (go_at_call 75; (with_reducible refine (HCG.out _ (HX.out.trans' HX3.out)).mono ?_); rintro en w4 ⟨rfl, hx4⟩)
        | fail)
      go_ret
      exact ⟨ret_bool (by rw [HR.out]; simp [hf0]), HX.out.trans' (HX3.out.trans' hx4)⟩
  · obtain ⟨q1, q2⟩ := neI (x := (e : Int)) (y := 0) (by omega)
    go_wp2_with (first
      | ((with_reducible refine atSlot 5 ?_); refine wpList_of_wp rfl (wp_load_mid (op := ⟨some 5, _, _, _, _, _⟩) 39 _ rfl b 0 rfl [.slice a n c, .bool pr] _ hr5 Tryz.underlying39 rfl (by kernel_rfl) ?_); clear hr5)
      | (go_at_call 75; (with_reducible refine (HCK.out _ HX.out).mono ?_); rintro en w3 ⟨rfl, hx3⟩)
      | fail)
    go_ret
    exact ⟨ret_bool (by rw [HR.out]; simp [he0]), HX.out.trans' hx3⟩
end Go.Proofs.YtejljmikammcdaaGreatDoor
