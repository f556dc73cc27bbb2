/-
  The walk of the law CodecPutsNumbers.
-/
import Derived.Test.YteifhemamedlgaaLawA0
namespace Go.Proofs.Yteifhemamedlgaa
open Go.RowKit

set_option maxRecDepth 100000 in
set_option maxHeartbeats 2000000 in
theorem PutsNumbers_walk (a : Option Addr) (n c : Nat) (l : List UInt8) (v : Nat) (k : Int) (w : World) (hb : Bytes w a n c l) (hs : n ≤ 140737488351232) (hv : (v : Int) ≤ 18446744073709551615) (h0 : -9223372036854775808 ≤ k) (h1 : k ≤ 9223372036854775807) :
    Calls Try.prog 3 #[.slice a n c, .int .u64 v, .int .i64 k] w (LawPost w) := by
  by_cases hn : 200 < n
  · go_enter Try.func3, Try.ntmps3
    go_wp2_with (go_at_call 14; refine (awake_any _).mono ?_; rintro e w1 ⟨rfl, hx⟩)
    go_ret
    exact ⟨rfl, hx⟩
  · have hz := Lib.zigzag_lt h0 h1
    go_enter Try.func3, Try.ntmps3
    go_wp2_with (first
      | (at_builtin; with_reducible refine wpList_clone (o := ⟨some 15, _, _, _, _, _⟩) rfl _ _ rfl Try.elB rfl rfl hb.row (u8_oneCell _) (by omega) ?_; intro a1 c1 w1 ho1 hx1; have hwas := Bytes.of_own ho1)
      | (go_at_call 15; refine (PutUint_any a n c l v _ (hb.ext hx1) hv (by omega)).mono ?_; rintro e w2 ⟨a2, n2, c2, rfl, ho2, hx2⟩)
      | (go_at_call 16; refine (PutInt_any a n c l k _ ((hb.ext hx1).ext hx2) h0 h1 (by omega)).mono ?_; rintro e w3 ⟨a3, n3, c3, rfl, ho3, hx3⟩; have hw3 := (hwas.ext hx2).ext hx3)
      | (at_builtin; with_reducible refine wpList_clone (o := ⟨some 24, _, _, _, _, _⟩) rfl _ _ rfl Try.elB rfl rfl hw3.row (u8_oneCell _) (by omega) ?_; intro a4 c4 w4 ho4 hx4)
      | (go_at_call 18; (with_reducible refine (refUint_any v _ hv).mono ?_); rintro e w5 ⟨a5, n5, c5, rfl, ho5, hx5⟩; have hn5 : n5 ≤ 10 := (by have e1 := own_len ho5; have := enc_le10 (v := v) (by omega); omega); have hz5 : w3.heap.size ≤ w5.heap.size := Nat.le_trans hx4.size hx5.size)
      | (at_builtin; with_reducible refine wpList_app (o := ⟨some 27, _, _, _, _, _⟩) rfl _ _ rfl Try.elB rfl (own_ext ho4 hx5) rfl (Row.of_own ho5) (u8_oneCell _) (by omega) (by unfold maxLen; omega) hz5 ?_; intro a6 c6 w6 ho6 hg6; rw [← List.map_append] at ho6; have hx6 : Ext w3 w6 := below_app (hx4.trans' hx5) (own_ext ho4 hx5) hg6 hz5)
      | (go_at_call 17; (with_reducible refine (same_any a2 a6 _ _ _ _ _ _ _ (((Bytes.of_own ho2).ext hx3).ext hx6) (Bytes.of_own ho6)).mono ?_); rintro e w7 ⟨rfl, rfl⟩)
      | (go_at_call 17; (with_reducible refine (same_any a a1 _ _ _ _ _ _ _ ((((hb.ext hx1).ext hx2).ext hx3).ext hx6) (hw3.ext hx6)).mono ?_); rintro e w7 ⟨rfl, rfl⟩)
      | (at_builtin; with_reducible refine wpList_clone (o := ⟨some 38, _, _, _, _, _⟩) rfl _ _ rfl Try.elB rfl rfl (hw3.ext hx6).row (u8_oneCell _) (by omega) ?_; intro a8 c8 w8 ho8 hx8)
      | (go_at_call 19; (with_reducible refine (Fold_any k _ h0 h1).mono ?_); rintro e w9 ⟨rfl, rfl⟩)
      | (go_at_call 18; (with_reducible refine (refUint_any (Lib.zigzag k) _ (by omega)).mono ?_); rintro e w10 ⟨a10, n10, c10, rfl, ho10, hx10⟩; have hn10 : n10 ≤ 10 := (by have e1 := own_len ho10; have := enc_le10 (v := Lib.zigzag k) (by omega); omega); have hz10 : w6.heap.size ≤ w10.heap.size := Nat.le_trans hx8.size hx10.size)
      | (at_builtin; with_reducible refine wpList_app (o := ⟨some 42, _, _, _, _, _⟩) rfl _ _ rfl Try.elB rfl (own_ext ho8 hx10) rfl (Row.of_own ho10) (u8_oneCell _) (by omega) (by unfold maxLen; omega) hz10 ?_; intro a11 c11 w11 ho11 hg11; rw [← List.map_append] at ho11; have hx11 : Ext w6 w11 := below_app (hx8.trans' hx10) (own_ext ho8 hx10) hg11 hz10)
      | (go_at_call 17; (with_reducible refine (same_any a3 a11 _ _ _ _ _ _ _ (((Bytes.of_own ho3).ext hx6).ext hx11) (Bytes.of_own ho11)).mono ?_); rintro e w7 ⟨rfl, rfl⟩)
      | (go_at_call 14; refine (awake_any _).mono ?_; rintro e w12 ⟨rfl, hx12⟩))
    go_ret
    exact ⟨rfl, ((((hx1.trans' hx2).trans' hx3).trans' hx6).trans' hx11).trans' hx12⟩

end Go.Proofs.Yteifhemamedlgaa
