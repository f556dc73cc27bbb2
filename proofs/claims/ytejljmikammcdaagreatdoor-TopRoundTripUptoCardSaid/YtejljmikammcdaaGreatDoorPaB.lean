/-
  Layer pattern, parts: isStar, formOf, MatchPart, PartWithin, meetPart, compatible; what they need of Go's strings.
-/
import Derived.Test.YtejljmikammcdaaGreatDoorPaA
import Derived.Test.YtejljmikammcdaaGreatDoorShelfA
namespace Go.Proofs.YtejljmikammcdaaGreatDoor
open Go.RowKit

theorem has_suffix (l p : Str) : Lib.hasSuffix l p = p.isSuffixOf l := rfl
theorem isStar_any (l : Str) (w : World) : Calls Tryz.prog 92 #[.string (bs l)] w (Ret (.bool (star l)) w) := by
  have hcon := Tryz.strings_HasPrefix (bs l) ⟨#[42]⟩ w
  rw [bs_data] at hcon
  have hcon' : Calls Tryz.prog 122 #[.string (bs l), .string ⟨#[42]⟩] w (Ret (.bool (star l)) w) := hcon.mono fun e w' ⟨h1, h2⟩ => ⟨h1, h2.symm⟩
  clear hcon
  generalize star l = r at hcon' ⊢
  go_enter Tryz.func92, Tryz.ntmps92
  go_wp2_with (first
    | (go_at_call 122; (with_reducible refine hcon'.mono ?_); rintro en w' ⟨rfl, rfl⟩)
    | fail)
  go_ret
  exact ⟨rfl, rfl⟩

def FormRel (l : Str) (i : Value) : Prop := ∃ j : Nat, i = .int .i64 (j + 1) ∧ j ≤ (suf l).length ∧ ((suf l).take j).all isB = true
set_option maxHeartbeats 1000000 in
theorem formOf_any (l : Str) (w : World) (hl : l.length < 4611686018427387904) : Calls Tryz.prog 99 #[.string (bs l)] w (Ret (.int .i64 (form l : Nat)) w) := by
  have HC := Lib.hid (Component_any l w hl)
  have HS0 := Tryz.strings_HasPrefix (bs l) ⟨#[42]⟩ w
  rw [bs_data] at HS0
  have HS := Lib.hid (show Calls Tryz.prog 122 #[.string (bs l), .string ⟨#[42]⟩] w (Ret (.bool (star l)) w) from HS0.mono fun e w' ⟨h1, h2⟩ => ⟨h1, h2.symm⟩)
  clear HS0
  obtain ⟨r, hr⟩ : ∃ r, r = form l := ⟨_, rfl⟩
  rw [← hr]
  have HR := Lib.hid hr
  clear hr
  cases hcb : compB l with
  | true =>
    have HRV := Lib.hid (show r = 1 by rw [HR.out]; exact form_one.2 hcb)
    rw [hcb] at HC
    clear hcb HR
    go_enter Tryz.func99, Tryz.ntmps99
    go_wp2_with (first
      | (go_at_call 123; (with_reducible refine HC.out.mono ?_); rintro en w' ⟨rfl, rfl⟩)
      | fail)
    go_ret
    exact ⟨ret_int (by rw [HRV.out]; rfl), rfl⟩
  | false =>
    rw [hcb] at HC
    cases hst : star l with
    | false =>
      have HRV := Lib.hid (show r = 0 by rw [HR.out]; unfold form; rw [hcb, hst]; rfl)
      rw [hst] at HS
      clear hcb hst HR
      go_enter Tryz.func99, Tryz.ntmps99
      go_wp2_with (first
        | (go_at_call 123; (with_reducible refine HC.out.mono ?_); rintro en w' ⟨rfl, rfl⟩)
        | (go_at_call 122; (with_reducible refine HS.out.mono ?_); rintro en w' ⟨rfl, rfl⟩)
        | fail)
      go_ret
      exact ⟨ret_int (by rw [HRV.out]; rfl), rfl⟩
    | true =>
      have HRV := Lib.hid (show r = if (suf l).all isB then 2 else 0 by rw [HR.out]; unfold form suf; rw [hcb, hst]; simp)
      have hlen : l.length = (suf l).length + 1 := by
        obtain ⟨u, rfl⟩ := star_iff.1 hst
        rfl
      have HAT := Lib.hid (show ∀ j c, (suf l)[j]? = some c → l[j + 1]? = some c from fun j c h => by
        obtain ⟨u, rfl⟩ := star_iff.1 hst
        exact h)
      rw [hst] at HS
      clear hcb hst HR
      go_enter Tryz.func99, Tryz.ntmps99
      go_upto_region 6 with (first
        | (go_at_call 123; (with_reducible refine HC.out.mono ?_); rintro en w' ⟨rfl, rfl⟩)
        | (go_at_call 122; (with_reducible refine HS.out.mono ?_); rintro en w' ⟨rfl, rfl⟩)
        | fail)
      have HLEN := Lib.hid hlen
      clear hlen
      go_loop [3] (FormRel l) (fun i => l.length - (intOf i).toNat)
      case atStart => exact ⟨0, rfl, Nat.zero_le _, by simp⟩
      case round =>
        obtain ⟨j, rfl, hj, hst⟩ := hrel
        have HST := Lib.hid hst
        clear hst
        by_cases hjl : j < (suf l).length
        · obtain ⟨c, hc⟩ : ∃ c, (suf l)[j]? = some c := ⟨_, List.getElem?_eq_getElem hjl⟩
          have h0 := bs_at (HAT.out j c hc)
          have HCC := Lib.hid hc
          have HTA := Lib.hid (take_all HST.out hc)
          have hjl2 : j + 1 < l.length := by have := HLEN.out; omega
          clear hc
          obtain ⟨b, hb⟩ : ∃ b, b = isB c := ⟨_, rfl⟩
          have HIB := Lib.hid (show Calls Tryz.prog 133 #[.int .u8 (c.toNat : Int)] w (Ret (.bool b) w) from by rw [hb]; exact IsByte_any c w)
          have HB := Lib.hid hb
          clear hb
          cases b with
          | true =>
            go_wp2_with (first
              | (go_at_call 133; (with_reducible refine HIB.out.mono ?_); rintro en w' ⟨rfl, rfl⟩)
              | fail)
            go_round
            case rel => exact ⟨j + 1, by go_num, by omega, by rw [HTA.out, ← HB.out]⟩
            case measure => simp [intOf]; omega
          | false =>
            go_wp2_with (first
              | (go_at_call 133; (with_reducible refine HIB.out.mono ?_); rintro en w' ⟨rfl, rfl⟩)
              | fail)
            go_ret
            refine ⟨ret_int ?_, rfl⟩
            rw [HRV.out, if_neg]
            · rfl
            · intro h
              have := List.all_eq_true.1 h c (List.mem_of_getElem? HCC.out)
              rw [← HB.out] at this; cases this
        · have hjl2 : ¬ j + 1 < l.length := by have := HLEN.out; omega
          go_wp2
          go_ret
          refine ⟨ret_int ?_, rfl⟩
          have h := HST.out
          rw [List.take_of_length_le (by omega)] at h
          rw [HRV.out, h]; rfl

/-- What strings.CutSuffix and TrimSuffix leave. -/
def cutS (l p : Str) : Str := if p.isSuffixOf l then l.take (l.length - p.length) else l
theorem CutSuffix_any (l p : Str) (w : World) (hl : l.length < 4611686018427387904) :
    Calls Tryz.prog 121 #[.string (bs l), .string (bs p)] w (Ret (.tuple #[.string (bs (cutS l p)), .bool (p.isSuffixOf l)]) w) := by
  have h := Tryz.strings_CutSuffix (bs l) (bs p) w (by rw [bs_size]; omega)
  rw [bs_data, bs_data] at h
  exact h.mono fun e w' ⟨h1, h2⟩ => ⟨h1, h2.symm⟩
theorem TrimSuffix_any (l p : Str) (w : World) (hl : l.length < 4611686018427387904) :
    Calls Tryz.prog 117 #[.string (bs l), .string (bs p)] w (Ret (.string (bs (cutS l p))) w) := by
  have h := Tryz.strings_TrimSuffix (bs l) (bs p) w (by rw [bs_size]; omega)
  rw [bs_data, bs_data] at h
  exact h.mono fun e w' ⟨h1, h2⟩ => ⟨h1, h2.symm⟩
theorem HasSuffix_any (l p : Str) (w : World) (hl : l.length < 4611686018427387904) :
    Calls Tryz.prog 114 #[.string (bs l), .string (bs p)] w (Ret (.bool (p.isSuffixOf l)) w) := by
  have h := Tryz.strings_HasSuffix (bs l) (bs p) w (by rw [bs_size]; omega)
  rw [bs_data, bs_data] at h
  exact h.mono fun e w' ⟨h1, h2⟩ => ⟨h1, h2.symm⟩

/-- pattern.MatchPart: what it answers. -/
def MpO (a c : Str) (w : World) (e : Ending) (w' : World) : Prop := ∃ x b, e = .returned (.tuple #[.string (bs x), .bool b]) ∧ b = (mpart a c).isSome ∧ (b = true → mpart a c = some x) ∧ w = w'
theorem bs_empty : (⟨#[]⟩ : ByteArray) = bs [] := rfl
theorem star_pos {a : Str} (h : star a = true) : 1 ≤ a.length := by obtain ⟨u, rfl⟩ := star_iff.1 h; simp
theorem mpart_is {a c : Str} (h : star a = true) : mpart a c = if (suf a).isSuffixOf c && !(cutS c (suf a)).isEmpty then some (cutS c (suf a)) else none := by
  apply Option.ext
  intro x
  rw [mpart_starred h]
  unfold cutS
  cases hs : (suf a).isSuffixOf c with
  | false =>
    simp only [Bool.false_and, Bool.false_eq_true, if_false]
    constructor
    · rintro ⟨-, rfl⟩
      rw [List.isSuffixOf_iff_suffix.2 ⟨x, rfl⟩] at hs; cases hs
    · intro h; cases h
  | true =>
    obtain ⟨t, rfl⟩ := List.isSuffixOf_iff_suffix.1 hs
    simp only [Bool.true_and, if_true, List.length_append, Nat.add_sub_cancel, List.take_left' rfl]
    constructor
    · rintro ⟨h1, h2⟩
      obtain rfl := List.append_cancel_right h2
      rw [if_pos (by cases t with
        | nil => exact absurd rfl h1
        | cons => rfl)]
    · intro h
      split at h
      · next ht => cases h; exact ⟨(fun e => by rw [e] at ht; cases ht), rfl⟩
      · cases h
set_option maxHeartbeats 1000000 in
theorem MatchPart_any (a c : Str) (w : World) (ha : a.length < 4611686018427387904) (hc : c.length < 4611686018427387904) :
    Calls Tryz.prog 91 #[.string (bs a), .string (bs c)] w (MpO a c w) := by
  have HS := Lib.hid (isStar_any a w)
  cases hst : star a with
  | false =>
    rw [hst] at HS
    have HP := Lib.hid hst
    clear hst
    obtain ⟨b, hb⟩ : ∃ b, b = (a == c) := ⟨_, rfl⟩
    have HB := Lib.hid hb
    have hb' := hb.symm
    clear hb
    go_enter Tryz.func91, Tryz.ntmps91
    go_wp2_with (first
      | (go_at_call 92; (with_reducible refine HS.out.mono ?_); rintro en w' ⟨rfl, rfl⟩)
      | fail)
    go_ret2
    refine ⟨[], b, rfl, ?_, ?_, rfl⟩
    · rw [HB.out]; unfold mpart; rw [HP.out, if_neg (by decide)]
      by_cases h : a = c <;> simp [h]
    · intro h; rw [HB.out] at h; exact (mpart_lit HP.out).2 ⟨by simpa using h, rfl⟩
  | true =>
    rw [hst] at HS
    have HP := Lib.hid hst
    have h1 := star_pos hst
    clear hst
    have HC := Lib.hid (CutSuffix_any c (suf a) w hc)
    obtain ⟨x, hx⟩ : ∃ x, x = cutS c (suf a) := ⟨_, rfl⟩
    obtain ⟨b, hb⟩ : ∃ b, b = (suf a).isSuffixOf c := ⟨_, rfl⟩
    rw [← hx, ← hb] at HC
    have HM := Lib.hid (mpart_is HP.out (c := c))
    rw [← hx, ← hb] at HM
    clear hx hb
    cases b with
    | false =>
      go_enter Tryz.func91, Tryz.ntmps91
      go_wp2_with (first
        | (go_at_call 92; (with_reducible refine HS.out.mono ?_); rintro en w' ⟨rfl, rfl⟩)
        | (go_at_call 121; (with_reducible refine HC.out.mono ?_); rintro en w' ⟨rfl, rfl⟩)
        | fail)
      go_ret2
      exact ⟨x, false, rfl, (by rw [HM.out]; rfl), (fun h => by cases h), rfl⟩
    | true =>
      go_enter Tryz.func91, Tryz.ntmps91
      go_wp2_with (first
        | (go_at_call 92; (with_reducible refine HS.out.mono ?_); rintro en w' ⟨rfl, rfl⟩)
        | (go_at_call 121; (with_reducible refine HC.out.mono ?_); rintro en w' ⟨rfl, rfl⟩)
        | fail)
      go_ret2
      refine ⟨x, !x.isEmpty, rfl, ?_, ?_, rfl⟩
      · rw [HM.out]; cases x <;> rfl
      · intro h; rw [HM.out, h]; rfl

/-- pattern.PartWithin. -/
theorem within1_eq {a b : Str} (h : a = b) : within1 a b = true := by rw [h]; exact within1_refl b
set_option maxHeartbeats 1000000 in
theorem PartWithin_any (a b : Str) (w : World) (ha : a.length < 4611686018427387904) (hb : b.length < 4611686018427387904) :
    Calls Tryz.prog 82 #[.string (bs a), .string (bs b)] w (NewNone (.bool (within1 a b)) w) := by
  have HA := Lib.hid (isStar_any a w)
  have HB := Lib.hid (isStar_any b w)
  have HM := Lib.hid (MatchPart_any b a w hb ha)
  have HX := Lib.hid fun w' => HasSuffix_any (suf a) (suf b) w' (by unfold suf; rw [List.length_drop]; omega)
  have HE := Lib.hid (Ext.drew' w)
  have HR := Lib.hid (show within1 a b = (a == b || (star b && (if star a then (suf b).isSuffixOf (suf a) else (mpart b a).isSome))) from rfl)
  generalize within1 a b = r at HR ⊢
  cases hab : (a == b) with
  | true =>
    rw [hab] at HR
    go_enter Tryz.func82, Tryz.ntmps82
    go_wp2
    go_ret
    exact ⟨ret_bool (by rw [HR.out]; rfl), Below.refl _ _⟩
  | false =>
    cases hsb : star b with
    | false =>
      rw [hab, hsb] at HR
      rw [hsb] at HB
      clear hsb
      go_enter Tryz.func82, Tryz.ntmps82
      go_wp2_with (first
        | (go_at_call 92; (with_reducible refine HB.out.mono ?_); rintro en w' ⟨rfl, rfl⟩)
        | fail)
      go_ret
      exact ⟨ret_bool (by rw [HR.out]; rfl), Below.refl _ _⟩
    | true =>
      have h1 := star_pos hsb
      cases hsa : star a with
      | false =>
        rw [hab, hsb, hsa] at HR
        rw [hsb] at HB
        rw [hsa] at HA
        clear hsb hsa
        go_enter Tryz.func82, Tryz.ntmps82
        go_wp2_with (first
          | (go_at_call 92; (with_reducible refine HB.out.mono ?_); rintro en w' ⟨rfl, rfl⟩)
          | (go_at_call 92; (with_reducible refine HA.out.mono ?_); rintro en w' ⟨rfl, rfl⟩)
          | (go_at_call 91; (with_reducible refine HM.out.mono ?_); rintro en w' ⟨x, q, rfl, hq, -, rfl⟩; have HQ := Lib.hid hq; clear hq)
          | fail)
        go_ret
        exact ⟨ret_bool (by rw [HR.out, HQ.out]; rfl), Below.refl _ _⟩
      | true =>
        have h2 := star_pos hsa
        rw [hab, hsb, hsa] at HR
        rw [hsb] at HB
        rw [hsa] at HA
        have h1' : (1 : Int) ≤ (b.length : Int) := by omega
        have h2' : (1 : Int) ≤ (a.length : Int) := by omega
        clear hsb hsa h1 h2
        go_enter Tryz.func82, Tryz.ntmps82
        go_upto_region 6 with (first
          | (go_at_call 92; (with_reducible refine HB.out.mono ?_); rintro en w' ⟨rfl, rfl⟩)
          | (go_at_call 92; (with_reducible refine HA.out.mono ?_); rintro en w' ⟨rfl, rfl⟩)
          | fail)
        refine wp_region_e [] (.qs [0, 1, 2, 3, 4, 5] .nil) (by kernel_rfl) (by kernel_rfl) ?_
        iterate 4 ((refine wpY_q rfl rfl _ (fun w' hx' => by go_simp; try rfl) ?_; go_simp))
        ((refine wpY_call rfl rfl _ _ _ (fun w' => by (try go_simp); first | done | rfl | exact ⟨rfl, rfl⟩ | exact ⟨rfl, rfl, rfl⟩) (fun w' _ => HX.out w') ?_; go_simp))
        iterate 1 ((refine wpY_q rfl rfl _ (fun w' hx' => by go_simp; try rfl) ?_; go_simp))
        refine wpY_nil ?_
        go_wp2
        go_ret
        exact ⟨ret_bool (by rw [HR.out]; rfl), HE.out⟩
/-- pattern.meetPart: what it answers. -/
def meetO (a b : Str) : Str × Bool := match meetPart a b with | some n => (n, true) | none => ([], false)
set_option maxHeartbeats 1000000 in
theorem meetPart_any (a b : Str) (w : World) (ha : a.length < 4611686018427387904) (hb : b.length < 4611686018427387904) :
    Calls Tryz.prog 77 #[.string (bs a), .string (bs b)] w (NewNone (.tuple #[.string (bs (meetO a b).1), .bool (meetO a b).2]) w) := by
  have H1 := Lib.hid (PartWithin_any a b w ha hb)
  have H2 := Lib.hid fun w' => PartWithin_any b a w' hb ha
  have HR := Lib.hid (show meetO a b = match (if within1 a b then some a else if within1 b a then some b else none) with | some n => (n, true) | none => ([], false) from rfl)
  generalize meetO a b = r at HR ⊢
  have g : ∀ q, r = q → NewNone (.tuple #[.string (bs r.1), .bool r.2]) w = NewNone (.tuple #[.string (bs q.1), .bool q.2]) w := fun q h => by rw [h]
  cases h1 : within1 a b with
  | true =>
    rw [h1] at HR H1
    rw [g _ HR.out]
    clear g
    go_enter Tryz.func77, Tryz.ntmps77
    go_wp2_with (first
      | (go_at_call 82; (with_reducible refine H1.out.mono ?_); rintro en w1 ⟨rfl, hx1⟩)
      | fail)
    go_ret2
    exact ⟨rfl, hx1⟩
  | false =>
    cases h2 : within1 b a with
    | true =>
      rw [h1, h2] at HR
      rw [h1] at H1
      rw [h2] at H2
      rw [g _ HR.out]
      clear g
      go_enter Tryz.func77, Tryz.ntmps77
      go_upto_region 3 with (first
        | (go_at_call 82; (with_reducible refine H1.out.mono ?_); rintro en w1 ⟨rfl, hx1⟩)
        | fail)
      go_wp2_with (first
        | (go_at_call 82; (with_reducible refine (H2.out w1).mono ?_); rintro en w2 ⟨rfl, hx2⟩)
        | fail)
      go_ret2
      exact ⟨rfl, hx1.trans' hx2⟩
    | false =>
      rw [h1, h2] at HR
      rw [h1] at H1
      rw [h2] at H2
      rw [g _ HR.out]
      clear g
      go_enter Tryz.func77, Tryz.ntmps77
      go_upto_region 3 with (first
        | (go_at_call 82; (with_reducible refine H1.out.mono ?_); rintro en w1 ⟨rfl, hx1⟩)
        | fail)
      go_wp2_with (first
        | (go_at_call 82; (with_reducible refine (H2.out w1).mono ?_); rintro en w2 ⟨rfl, hx2⟩)
        | fail)
      go_ret2
      exact ⟨rfl, hx1.trans' hx2⟩

theorem compatible_any (n : Nat) (r : Bool) (m : Nat) (o : Bool) (w : World) :
    Calls Tryz.prog 76 #[.int .i64 (n : Nat), .bool r, .int .i64 (m : Nat), .bool o] w (Ret (.bool (compat n r m o)) w) := by
  have HR := Lib.hid (show compat n r m o = (if r && o then true else if r then decide (n < m) else if o then decide (m < n) else decide (n = m)) from rfl)
  generalize compat n r m o = q at HR ⊢
  cases r <;> cases o <;> go_enter Tryz.func76, Tryz.ntmps76 <;> go_wp2 <;> go_ret <;> refine ⟨ret_bool ?_, rfl⟩ <;> rw [HR.out] <;> first | (simp; done) | (by_cases h : n = m <;> simp [h]; omega)
end Go.Proofs.YtejljmikammcdaaGreatDoor
