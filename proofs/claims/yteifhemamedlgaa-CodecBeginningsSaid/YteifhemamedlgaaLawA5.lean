/-
  The walks of the laws CodecSigns, CodecNumbersBack.
-/
import Derived.Test.YteifhemamedlgaaLawA0
import Derived.Test.YteifhemamedlgaaMathB
namespace Go.Proofs.Yteifhemamedlgaa
open Go.RowKit

theorem signs_facts (n : Int) : (((Lib.zigzag n : Int) / 2) != ((Lib.zigzag (-1 - n) : Int) / 2)) = false ∧ ((Lib.zigzag n : Int) == Lib.zigzag (-1 - n)) = false ∧ (decide (0 ≤ n) == ((Lib.zigzag n : Int) % 2 == 0)) = true := by
  unfold Lib.zigzag
  refine ⟨?_, ?_, ?_⟩
  · rw [bne_eq_false_iff_eq]; split <;> split <;> omega
  · rw [beq_eq_false_iff_ne]; split <;> split <;> omega
  · rw [beq_iff_eq, Bool.eq_iff_iff]; simp only [decide_eq_true_eq, beq_iff_eq]; split <;> omega

theorem len_test {l : List UInt8} {n : Nat} (h : l.length = n) : ((l.length : Int) == (n : Int)) = true := by rw [h]; simp

theorem len_two {l m : List UInt8} {n k : Nat} (h : (l ++ m).length = n) (hl : l.length = k) : (n : Int) ≤ (k : Int) + m.length ∧ (k : Int) + m.length ≤ (n : Int) := by
  rw [List.length_append] at h; omega

theorem of_enc {w : World} {a : Option Addr} {n c : Nat} {v : Nat} (h : Bytes w a n c (enc v)) (hv : v ≤ 18446744073709551615) : (1 : Int) ≤ ((enc v).length : Int) ∧ n ≤ 140737488355328 := by
  have e := h.len; have := enc_pos v; have := enc_le10 hv; omega

set_option maxRecDepth 100000 in
set_option maxHeartbeats 4000000 in
theorem Signs_walk (n : Int) (v : Nat) (w : World) (h0 : -9223372036854775808 ≤ n) (h1 : n ≤ 9223372036854775807) (hv : (v : Int) ≤ 18446744073709551615) :
    Calls Try.prog 9 #[.int .i64 n, .int .u64 v] w (LawPost w) := by
  have hA := zig_bd h0 h1
  have hB := zig_bd (n := -1 - n) (by omega) (by omega)
  have hV := unzig_bd (u := v) (by omega)
  obtain ⟨f1, f2, f3⟩ := signs_facts n
  have hz := zig_unzig v
  have HZ := Lib.hid hz
  have hI := Lib.hid (intRes_enc0 (v := v) (by omega))
  have t1 : True := trivial
  have t2 : True := trivial
  clear hz
  generalize hAg : Lib.zigzag n = A at *
  generalize hBg : Lib.zigzag (-1 - n) = B at *
  generalize hUg : unzig v = U at *
  have HA := Lib.hid hAg
  have HB := Lib.hid hBg
  have HU := Lib.hid hUg
  clear hAg hBg hUg
  go_enter Try.func9, Try.ntmps9
  go_wp2_with (first
    | (go_at_call 16; (with_reducible refine (PutInt_any none 0 0 [] n _ (Bytes.nil _) h0 h1 (by decide)).mono ?_); rintro e w1 ⟨a1, n1, c1, rfl, ho1, hx1⟩; rw [List.nil_append, HA.out] at ho1; have hb1 := Bytes.of_own ho1; obtain ⟨q1, m1⟩ := of_enc hb1 hA)
    | (go_at_call 20; (with_reducible refine (Uint_as a1 n1 c1 (enc A) 0 _ hb1 m1 (uintRes_enc0 hA)).mono ?_); rintro e w2 ⟨rfl, rfl⟩)
    | (go_at_call 16; (with_reducible refine (PutInt_any none 0 0 [] (-1 - n) _ (Bytes.nil _) (by omega) (by omega) (by decide)).mono ?_); rintro e w3 ⟨a3, n3, c3, rfl, ho3, hx3⟩; rw [List.nil_append, HB.out] at ho3; have hb3 := Bytes.of_own ho3; obtain ⟨q3, m3⟩ := of_enc hb3 hB)
    | (go_at_call 20; (with_reducible refine (Uint_as a3 n3 c3 (enc B) 0 _ hb3 m3 (uintRes_enc0 hB)).mono ?_); rintro e w4 ⟨rfl, rfl⟩)
    | (go_at_call 15; have _t := t1; (with_reducible refine (PutUint_any none 0 0 [] v _ (Bytes.nil _) hv (by decide)).mono ?_); rintro e w5 ⟨a5, n5, c5, rfl, ho5, hx5⟩; clear t1; rw [List.nil_append] at ho5; have hb5 := Bytes.of_own ho5; obtain ⟨q5, m5⟩ := of_enc hb5 (by omega))
    | (go_at_call 26; (with_reducible refine (Int_as a5 n5 c5 (enc v) 0 _ hb5 m5 (hI.out)).mono ?_); rintro e w6 ⟨rfl, rfl⟩)
    | (go_at_call 15; have _t := t2; (with_reducible refine (PutUint_any none 0 0 [] v _ (Bytes.nil _) hv (by decide)).mono ?_); rintro e w7 ⟨a7, n7, c7, rfl, ho7, hx7⟩; clear t2; rw [List.nil_append] at ho7; have hl7 := len_test (own_len ho7))
    | (go_at_call 16; (with_reducible refine (PutInt_any none 0 0 [] U _ (Bytes.nil _) hV.1 hV.2 (by decide)).mono ?_); rintro e w8 ⟨a8, n8, c8, rfl, ho8, hx8⟩; rw [List.nil_append, HZ.out] at ho8; have hb8 := Bytes.of_own ho8)
    | (go_at_call 15; (with_reducible refine (PutUint_any none 0 0 [] v _ (Bytes.nil _) hv (by decide)).mono ?_); rintro e w9 ⟨a9, n9, c9, rfl, ho9, hx9⟩; rw [List.nil_append] at ho9; have hb9 := Bytes.of_own ho9)
    | (go_at_call 17; (with_reducible refine (same_any a8 a9 _ _ _ _ _ _ _ (hb8.ext hx9) hb9).mono ?_); rintro e w10 ⟨rfl, rfl⟩)
    | (go_at_call 14; refine (awake_any _).mono ?_; rintro e w12 ⟨rfl, hx12⟩))
  go_ret
  exact ⟨rfl, ((((((hx1.trans' hx3).trans' hx5).trans' hx7).trans' hx8).trans' hx9)).trans' hx12⟩

theorem back_facts {p r : List UInt8} {v : Nat} {k : Int} {n : Nat} (hp : p.length = n) (hv : v ≤ 18446744073709551615) (h0 : -9223372036854775808 ≤ k) (h1 : k ≤ 9223372036854775807) :
    uintRes ((p ++ enc v ++ enc (Lib.zigzag k)) ++ r) (n : Int) = (v, (n : Int) + (enc v).length, 0) ∧
    intRes ((p ++ enc v ++ enc (Lib.zigzag k)) ++ r) ((n : Int) + (enc v).length) = (k, (n : Int) + (enc v).length + (enc (Lib.zigzag k)).length, 0) := by
  subst hp
  refine ⟨?_, ?_⟩
  · have := uintRes_enc hv p (enc (Lib.zigzag k) ++ r)
    simpa using this
  · have := intRes_enc h0 h1 (p ++ enc v) r
    simpa using this

set_option maxRecDepth 100000 in
set_option maxHeartbeats 4000000 in
theorem NumbersBack_walk (a : Option Addr) (n c : Nat) (p : List UInt8) (b : Option Addr) (m d : Nat) (r : List UInt8) (v : Nat) (k : Int) (w : World) (hb : Bytes w a n c p) (hs : n ≤ 140737488351232) (hr : Bytes w b m d r) (hs2 : m ≤ 140737488351232)
    (hv : (v : Int) ≤ 18446744073709551615) (h0 : -9223372036854775808 ≤ k) (h1 : k ≤ 9223372036854775807) :
    Calls Try.prog 8 #[.slice a n c, .slice b m d, .int .u64 v, .int .i64 k] w (LawPost w) := by
  by_cases hn : 100 < n ∨ 100 < m
  · rcases hn with hn | hn
    all_goals
      go_enter Try.func8, Try.ntmps8
      go_wp2_with (go_at_call 14; refine (awake_any _).mono ?_; rintro e w1 ⟨rfl, hx⟩)
      all_goals
        go_ret
        exact ⟨rfl, hx⟩
  · have hn1 : n ≤ 100 := by omega
    have hn2 : m ≤ 100 := by omega
    obtain ⟨f1, f2⟩ := back_facts (r := r) hb.len (by omega : v ≤ 18446744073709551615) h0 h1
    have F1 := Lib.hid f1
    have F2 := Lib.hid f2
    have e1 : (1 : Int) ≤ (enc v).length := by have := enc_pos v; omega
    have e2 : (1 : Int) ≤ (enc (Lib.zigzag k)).length := by have := enc_pos (Lib.zigzag k); omega
    have e3 : (enc v).length ≤ 10 := enc_le10 (by omega)
    have e4 : (enc (Lib.zigzag k)).length ≤ 10 := enc_le10 (zig_bd h0 h1)
    clear hn f1 f2
    go_enter Try.func8, Try.ntmps8
    go_wp2_with (first
      | (at_builtin; with_reducible refine wpList_clone (o := ⟨some 27, _, _, _, _, _⟩) rfl _ _ rfl Try.elB rfl rfl hb.row (u8_oneCell _) (by omega) ?_; intro a1 c1 w1 ho1 hx1; have hb1 := Bytes.of_own ho1)
      | (go_at_call 15; (with_reducible refine (PutUint_any a1 n c1 p v _ hb1 hv (by omega)).mono ?_); rintro e w2 ⟨a2, n2, c2, rfl, ho2, hx2⟩; have hb2 := Bytes.of_own ho2; obtain ⟨l2a, l2b⟩ := len_two hb2.len hb.len)
      | (go_at_call 16; (with_reducible refine (PutInt_any a2 n2 c2 _ k _ hb2 h0 h1 (by omega)).mono ?_); rintro e w3 ⟨a3, n3, c3, rfl, ho3, hx3⟩; have hb3 := Bytes.of_own ho3; obtain ⟨l3a, l3b⟩ := len_two hb3.len hb2.len)
      | (at_builtin; with_reducible refine wpList_clone (o := ⟨some 35, _, _, _, _, _⟩) rfl _ _ rfl Try.elB rfl rfl hb3.row (u8_oneCell _) (by omega) ?_; intro a4 c4 w4 ho4 hx4)
      | (at_builtin; with_reducible refine wpList_app (o := ⟨some 37, _, _, _, _, _⟩) rfl _ _ rfl Try.elB rfl ho4 rfl ((((hr.ext hx1).ext hx2).ext hx3).ext hx4).row (u8_oneCell _) (by omega) (by unfold maxLen; omega) hx4.size ?_; intro a5 c5 w5 ho5 hg5; rw [← List.map_append] at ho5; have hx5 : Ext w3 w5 := below_app hx4 ho4 hg5 hx4.size; have hb5 := Bytes.of_own ho5)
      | (go_at_call 20; (with_reducible refine (Uint_as a5 _ c5 _ _ _ hb5 (by omega) F1.out).mono ?_); rintro e w6 ⟨rfl, rfl⟩)
      | (go_at_call 26; (with_reducible refine (Int_as a5 _ c5 _ _ _ hb5 (by omega) F2.out).mono ?_); rintro e w7 ⟨rfl, rfl⟩)
      | (go_at_call 14; refine (awake_any _).mono ?_; rintro e w12 ⟨rfl, hx12⟩))
    go_ret
    exact ⟨rfl, ((((hx1.trans' hx2).trans' hx3).trans' hx5)).trans' hx12⟩

end Go.Proofs.Yteifhemamedlgaa
