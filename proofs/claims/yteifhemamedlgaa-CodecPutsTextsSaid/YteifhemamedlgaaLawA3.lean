/-
  The walk of the law CodecPutsTexts.
-/
import Derived.Test.YteifhemamedlgaaLawA0
namespace Go.Proofs.Yteifhemamedlgaa
open Go.RowKit

theorem text_len {s : ByteArray} {n : Nat} (hs : s.size ≤ 400) (h : (enc s.size ++ s.data.toList).length = n) : n ≤ 410 := by
  have := enc_le10 (v := s.size) (by omega)
  rw [List.length_append] at h
  have e2 : s.data.toList.length = s.size := by rw [Array.length_toList]; rfl
  omega

set_option maxRecDepth 100000 in
set_option maxHeartbeats 2000000 in
theorem PutsTexts_walk (a : Option Addr) (n c : Nat) (l : List UInt8) (s : ByteArray) (v : Bool) (w : World) (hb : Bytes w a n c l) (hs : n ≤ 140737488351232) (hs2 : s.size ≤ 140737488351232) :
    Calls Try.prog 6 #[.slice a n c, .string s, .bool v] w (LawPost w) := by
  by_cases hn : 200 < n ∨ 400 < s.size
  · rcases hn with hn | hn
    all_goals
      go_enter Try.func6, Try.ntmps6
      go_wp2_with (go_at_call 14; refine (awake_any _).mono ?_; rintro e w1 ⟨rfl, hx⟩)
      all_goals
        go_ret
        exact ⟨rfl, hx⟩
  · have hn1 : n ≤ 200 := by omega
    have hn2 : s.size ≤ 400 := by omega
    clear hn
    go_enter Try.func6, Try.ntmps6
    go_wp2_with (first
      | (at_builtin; with_reducible refine wpList_clone (o := ⟨some 20, _, _, _, _, _⟩) rfl _ _ rfl Try.elB rfl rfl hb.row (u8_oneCell _) (by omega) ?_; intro a1 c1 w1 ho1 hx1; have hwas := Bytes.of_own ho1)
      | (go_at_call 21; refine (PutText_any a n c l s _ (hb.ext hx1) (by omega)).mono ?_; rintro e w2 ⟨a2, n2, c2, rfl, ho2, hx2⟩)
      | (go_at_call 22; refine (PutBool_any a n c l v _ ((hb.ext hx1).ext hx2) (by omega)).mono ?_; rintro e w3 ⟨a3, n3, c3, rfl, ho3, hx3⟩; have hw3 := (hwas.ext hx2).ext hx3)
      | (at_builtin; with_reducible refine wpList_clone (o := ⟨some 29, _, _, _, _, _⟩) rfl _ _ rfl Try.elB rfl rfl hw3.row (u8_oneCell _) (by omega) ?_; intro a4 c4 w4 ho4 hx4)
      | (go_at_call 23; (with_reducible refine (refText_any s _ (by omega)).mono ?_); rintro e w5 ⟨a5, n5, c5, rfl, ho5, hx5⟩; have hn5 : n5 ≤ 410 := text_len hn2 (own_len ho5); have hz5 : w3.heap.size ≤ w5.heap.size := Nat.le_trans hx4.size hx5.size)
      | (at_builtin; with_reducible refine wpList_app (o := ⟨some 32, _, _, _, _, _⟩) rfl _ _ rfl Try.elB rfl (own_ext ho4 hx5) rfl (Row.of_own ho5) (u8_oneCell _) (by omega) (by unfold maxLen; omega) hz5 ?_; intro a6 c6 w6 ho6 hg6; rw [← List.map_append] at ho6; have hx6 : Ext w3 w6 := below_app (hx4.trans' hx5) (own_ext ho4 hx5) hg6 hz5)
      | (go_at_call 17; (with_reducible refine (same_any a2 a6 _ _ _ _ _ _ _ (((Bytes.of_own ho2).ext hx3).ext hx6) (Bytes.of_own ho6)).mono ?_); rintro e w7 ⟨rfl, rfl⟩)
      | (go_at_call 17; (with_reducible refine (same_any a a1 _ _ _ _ _ _ _ ((((hb.ext hx1).ext hx2).ext hx3).ext hx6) (hw3.ext hx6)).mono ?_); rintro e w7 ⟨rfl, rfl⟩)
      | (at_builtin; with_reducible refine wpList_clone (o := ⟨some 43, _, _, _, _, _⟩) rfl _ _ rfl Try.elB rfl rfl (hw3.ext hx6).row (u8_oneCell _) (by omega) ?_; intro a8 c8 w8 ho8 hx8)
      | (go_at_call 24; (with_reducible refine (refBool_any v _).mono ?_); rintro e w10 ⟨a10, n10, c10, rfl, ho10, hx10⟩; have hn10 : n10 ≤ 1 := (by have e1 := own_len ho10; simp at e1; omega); have hz10 : w6.heap.size ≤ w10.heap.size := Nat.le_trans hx8.size hx10.size)
      | (at_builtin; with_reducible refine wpList_app (o := ⟨some 46, _, _, _, _, _⟩) rfl _ _ rfl Try.elB rfl (own_ext ho8 hx10) rfl (Row.of_own ho10) (u8_oneCell _) (by omega) (by unfold maxLen; omega) hz10 ?_; intro a11 c11 w11 ho11 hg11; rw [← List.map_append] at ho11; have hx11 : Ext w6 w11 := below_app (hx8.trans' hx10) (own_ext ho8 hx10) hg11 hz10)
      | (go_at_call 17; (with_reducible refine (same_any a3 a11 _ _ _ _ _ _ _ (((Bytes.of_own ho3).ext hx6).ext hx11) (Bytes.of_own ho11)).mono ?_); rintro e w7 ⟨rfl, rfl⟩)
      | (go_at_call 14; refine (awake_any _).mono ?_; rintro e w12 ⟨rfl, hx12⟩))
    go_ret
    exact ⟨rfl, ((((hx1.trans' hx2).trans' hx3).trans' hx6).trans' hx11).trans' hx12⟩

end Go.Proofs.Yteifhemamedlgaa
