/-
  The walks of the laws CodecBeginnings, CodecTextsBack.
-/
import Derived.Test.YteifhemamedlgaaLawA5
namespace Go.Proofs.Yteifhemamedlgaa
open Go.RowKit

theorem str_len (s : ByteArray) : s.data.toList.length = s.size := by rw [Array.length_toList]; rfl

set_option maxRecDepth 100000 in
set_option maxHeartbeats 4000000 in
theorem Beginnings_walk (s : ByteArray) (k : Int) (w : World) (hs : s.size ≤ 140737488351232) (_h0 : -9223372036854775808 ≤ k) (_h1 : k ≤ 9223372036854775807) :
    Calls Try.prog 12 #[.string s, .int .i64 k] w (LawPost w) := by
  have e10 := enc_le10 (v := s.size) (by omega)
  by_cases hn : 400 < s.size ∨ k < 0 ∨ ((enc s.size).length + s.size : Int) ≤ k
  · rcases hn with hn | hn | hn
    all_goals
      go_enter Try.func12, Try.ntmps12
      go_wp2_with (first
        | (go_at_call 21; (with_reducible refine (PutText_any none 0 0 [] s _ (Bytes.nil _) (by omega)).mono ?_); rintro e w1 ⟨a1, n1, c1, rfl, ho1, hx1⟩; rw [List.nil_append] at ho1; have hb1 := Bytes.of_own ho1; obtain ⟨q1, q2⟩ := len_two hb1.len rfl; have q3 : (s.data.toList.length : Int) = s.size := (by rw [str_len]); rw [q3] at q1 q2; clear q3)
        | (go_at_call 14; refine (awake_any _).mono ?_; rintro e w2 ⟨rfl, hx2⟩))
      all_goals
        go_ret
        exact ⟨rfl, hx1.trans' hx2⟩
  · have hn1 : s.size ≤ 400 := by omega
    obtain ⟨j, rfl⟩ := Int.eq_ofNat_of_zero_le (show 0 ≤ k by omega)
    have hj : j < (enc s.size).length + s.size := by omega
    have hf := text_short (s := s.data.toList) (by rw [str_len]; omega) (k := j) (by rw [List.length_append, str_len]; exact hj)
    rw [str_len] at hf
    have HF := Lib.hid hf
    clear hf hn
    go_enter Try.func12, Try.ntmps12
    go_wp2_with (first
      | (go_at_call 21; (with_reducible refine (PutText_any none 0 0 [] s _ (Bytes.nil _) (by omega)).mono ?_); rintro e w1 ⟨a1, n1, c1, rfl, ho1, hx1⟩; rw [List.nil_append] at ho1; have hb1 := Bytes.of_own ho1; obtain ⟨q1, q2⟩ := len_two hb1.len rfl; have q3 : (s.data.toList.length : Int) = s.size := (by rw [str_len]); rw [q3] at q1 q2; clear q3)
      | (with_reducible refine wpList_sl_hi rfl (.tmp 26) (.tmp 27) rfl Try.elB rfl hb1.row j rfl rfl (by omega) ?_; intro a2 hr2; have hb2 := Bytes.take hr2)
      | (go_at_call 30; (with_reducible refine (Text_as a2 _ _ _ _ _ _ hb2 (by omega) (by omega) HF.out).mono ?_); rintro e w3 ⟨rfl, rfl⟩)
      | (go_at_call 14; refine (awake_any _).mono ?_; rintro e w2 ⟨rfl, hx2⟩))
    go_ret
    exact ⟨rfl, hx1.trans' hx2⟩

theorem texts_facts {p r : List UInt8} {s : ByteArray} {v : Bool} {n : Nat} (hp : p.length = n) (hs : s.size ≤ 400) (most : Int) :
    (max most 0 < (s.size : Int) → textRes (((p ++ (enc s.size ++ s.data.toList)) ++ [if v then 1 else 0]) ++ r) (n : Int) most = ([], 0, 13)) ∧
    (¬ max most 0 < (s.size : Int) → textRes (((p ++ (enc s.size ++ s.data.toList)) ++ [if v then 1 else 0]) ++ r) (n : Int) most = (s.data.toList, (n : Int) + (enc s.size).length + s.size, 0)) ∧
    boolRes (((p ++ (enc s.size ++ s.data.toList)) ++ [if v then 1 else 0]) ++ r) ((n : Int) + (enc s.size).length + s.size) = (v, (n : Int) + (enc s.size).length + s.size + 1, 0) := by
  subst hp
  have h1 := text_back p s.data.toList ([if v then 1 else 0] ++ r) (by rw [str_len]; omega) most
  have h2 := bool_back (p ++ (enc s.size ++ s.data.toList)) r v
  rw [str_len] at h1
  have e : p ++ (enc s.size ++ (s.data.toList ++ ([if v then 1 else 0] ++ r))) = (((p ++ (enc s.size ++ s.data.toList)) ++ [if v then 1 else 0]) ++ r) := by simp
  rw [e] at h1
  refine ⟨fun h => by rw [h1, if_pos h], fun h => by rw [h1, if_neg h], ?_⟩
  have e2 : ((p ++ (enc s.size ++ s.data.toList)).length : Int) = (p.length : Int) + (enc s.size).length + s.size := by
    rw [List.length_append, List.length_append, str_len]; omega
  rw [e2] at h2
  rw [List.append_assoc]
  exact h2

set_option maxRecDepth 100000 in
set_option maxHeartbeats 8000000 in
theorem TextsBack_walk (a : Option Addr) (n c : Nat) (p : List UInt8) (b : Option Addr) (m d : Nat) (r : List UInt8) (s : ByteArray) (v : Bool) (most : Int) (w : World) (hb : Bytes w a n c p) (hs : n ≤ 140737488351232) (hr : Bytes w b m d r) (hs2 : m ≤ 140737488351232)
    (_hs3 : s.size ≤ 140737488351232) (_h0 : -9223372036854775808 ≤ most) (h1 : most ≤ 9223372036854775807) :
    Calls Try.prog 13 #[.slice a n c, .slice b m d, .string s, .bool v, .int .i64 most] w (LawPost w) := by
  by_cases hn : 100 < n ∨ 100 < m ∨ 400 < s.size
  · rcases hn with hn | hn | hn
    all_goals
      go_enter Try.func13, Try.ntmps13
      go_wp2_with (go_at_call 14; refine (awake_any _).mono ?_; rintro e w1 ⟨rfl, hx⟩)
      all_goals
        go_ret
        exact ⟨rfl, hx⟩
  · have hn1 : n ≤ 100 := by omega
    have hn2 : m ≤ 100 := by omega
    have hn3 : s.size ≤ 400 := by omega
    obtain ⟨f1, f2, f3⟩ := texts_facts (r := r) (v := v) hb.len hn3 most
    have F1 := Lib.hid f1
    have F2 := Lib.hid f2
    have F3 := Lib.hid f3
    have e3 : (enc s.size).length ≤ 10 := enc_le10 (by omega)
    clear hn f1 f2 f3
    by_cases hm : max most 0 < (s.size : Int)
    · have HT := Lib.hid (F1.out hm)
      have hcase : 0 ≤ most ∧ most < (s.size : Int) ∨ most < 0 ∧ 0 < s.size := by omega
      clear hm F1 F2 F3
      rcases hcase with ⟨q1, q2⟩ | ⟨q1, q2⟩
      all_goals
        go_enter Try.func13, Try.ntmps13
        go_wp2_with (first
          | (at_builtin; with_reducible refine wpList_clone (o := ⟨some 34, _, _, _, _, _⟩) rfl _ _ rfl Try.elB rfl rfl hb.row (u8_oneCell _) (by omega) ?_; intro a1 c1 w1 ho1 hx1; have hb1 := Bytes.of_own ho1)
          | (go_at_call 21; (with_reducible refine (PutText_any a1 n c1 p s _ hb1 (by omega)).mono ?_); rintro e w2 ⟨a2, n2, c2, rfl, ho2, hx2⟩; have hb2 := Bytes.of_own ho2; obtain ⟨l2a, l2b⟩ := len_two hb2.len hb.len; rw [List.length_append, str_len] at l2a l2b)
          | (go_at_call 22; (with_reducible refine (PutBool_any a2 n2 c2 _ v _ hb2 (by omega)).mono ?_); rintro e w3 ⟨a3, n3, c3, rfl, ho3, hx3⟩; have hb3 := Bytes.of_own ho3; obtain ⟨l3a, l3b⟩ := len_two hb3.len hb2.len; rw [List.length_singleton] at l3a l3b)
          | (at_builtin; with_reducible refine wpList_clone (o := ⟨some 42, _, _, _, _, _⟩) rfl _ _ rfl Try.elB rfl rfl hb3.row (u8_oneCell _) (by omega) ?_; intro a4 c4 w4 ho4 hx4)
          | (at_builtin; with_reducible refine wpList_app (o := ⟨some 44, _, _, _, _, _⟩) rfl _ _ rfl Try.elB rfl ho4 rfl ((((hr.ext hx1).ext hx2).ext hx3).ext hx4).row (u8_oneCell _) (by omega) (by unfold maxLen; omega) hx4.size ?_; intro a5 c5 w5 ho5 hg5; rw [← List.map_append] at ho5; have hx5 : Ext w3 w5 := below_app hx4 ho4 hg5 hx4.size; have hb5 := Bytes.of_own ho5)
          | (go_at_call 30; (with_reducible refine (Text_as a5 _ c5 _ _ _ _ hb5 (by omega) h1 HT.out).mono ?_); rintro e w6 ⟨rfl, rfl⟩)
          | (go_at_call 14; refine (awake_any _).mono ?_; rintro e w12 ⟨rfl, hx12⟩))
        go_ret
        exact ⟨rfl, ((((hx1.trans' hx2).trans' hx3).trans' hx5)).trans' hx12⟩
    · have HT := Lib.hid (F2.out hm)
      have hcase : (s.size : Int) ≤ most ∨ most < 0 ∧ s.size ≤ 0 := by omega
      clear hm F1 F2
      rcases hcase with q1 | ⟨q1, q2⟩
      all_goals
        go_enter Try.func13, Try.ntmps13
        go_wp2_with (first
          | (at_builtin; with_reducible refine wpList_clone (o := ⟨some 34, _, _, _, _, _⟩) rfl _ _ rfl Try.elB rfl rfl hb.row (u8_oneCell _) (by omega) ?_; intro a1 c1 w1 ho1 hx1; have hb1 := Bytes.of_own ho1)
          | (go_at_call 21; (with_reducible refine (PutText_any a1 n c1 p s _ hb1 (by omega)).mono ?_); rintro e w2 ⟨a2, n2, c2, rfl, ho2, hx2⟩; have hb2 := Bytes.of_own ho2; obtain ⟨l2a, l2b⟩ := len_two hb2.len hb.len; rw [List.length_append, str_len] at l2a l2b)
          | (go_at_call 22; (with_reducible refine (PutBool_any a2 n2 c2 _ v _ hb2 (by omega)).mono ?_); rintro e w3 ⟨a3, n3, c3, rfl, ho3, hx3⟩; have hb3 := Bytes.of_own ho3; obtain ⟨l3a, l3b⟩ := len_two hb3.len hb2.len; rw [List.length_singleton] at l3a l3b)
          | (at_builtin; with_reducible refine wpList_clone (o := ⟨some 42, _, _, _, _, _⟩) rfl _ _ rfl Try.elB rfl rfl hb3.row (u8_oneCell _) (by omega) ?_; intro a4 c4 w4 ho4 hx4)
          | (at_builtin; with_reducible refine wpList_app (o := ⟨some 44, _, _, _, _, _⟩) rfl _ _ rfl Try.elB rfl ho4 rfl ((((hr.ext hx1).ext hx2).ext hx3).ext hx4).row (u8_oneCell _) (by omega) (by unfold maxLen; omega) hx4.size ?_; intro a5 c5 w5 ho5 hg5; rw [← List.map_append] at ho5; have hx5 : Ext w3 w5 := below_app hx4 ho4 hg5 hx4.size; have hb5 := Bytes.of_own ho5)
          | (go_at_call 30; (with_reducible refine (Text_as a5 _ c5 _ _ _ _ hb5 (by omega) h1 HT.out).mono ?_); rintro e w6 ⟨rfl, rfl⟩)
          | (go_at_call 28; (with_reducible refine (Bool_as a5 _ c5 _ _ _ hb5 (by omega) F3.out).mono ?_); rintro e w7 ⟨rfl, rfl⟩)
          | (go_at_call 14; refine (awake_any _).mono ?_; rintro e w12 ⟨rfl, hx12⟩))
        go_ret
        exact ⟨rfl, ((((hx1.trans' hx2).trans' hx3).trans' hx5)).trans' hx12⟩

end Go.Proofs.Yteifhemamedlgaa
