/-
  Walks of layer 1's reference: the functions that encode.
-/
import Derived.Test.YteifhemamedlgaaCodecA
namespace Go.Proofs.Yteifhemamedlgaa
open Go.RowKit

theorem rem128 (v : Nat) : ((v % 128 + 128 : Nat) : Int) = (v : Int) % 128 + 128 := by omega

set_option maxRecDepth 100000 in
theorem refUint_any (v : Nat) : ∀ (w : World), (v : Int) ≤ 18446744073709551615 →
    Calls Try.prog 18 #[.int .u64 v] w (NewBytes w (enc v)) := by
  induction v using Nat.strongRecOn with
  | _ v ih =>
  intro w hv
  have IH := Lib.hid ih; clear ih
  by_cases h : v < 128
  · go_enter Try.func18, Try.ntmps18
    go_wp2
    go_ret
    refine ⟨_, 1, 1, rfl, ?_, (Below.refl _ _).alloc (Nat.le_refl _) _⟩
    rw [enc_lt h, List.map_cons, List.map_nil, u8_ofNat _ (by omega)]
    exact own_lit w _ _ _ 1 1 (Nat.le_refl _) (by decide) rfl
  · go_enter Try.func18, Try.ntmps18
    go_wp2_with (first
      | (go_at_call 18; go_loud (refine (IH.out (v / 128) (by omega) _ (by omega)).mono ?_); rintro e w1 ⟨a1, n1, c1, rfl, hown1, hx1⟩)
      | (at_builtin; go_loud (refine wpList_app rfl _ _ rfl Try.elB rfl (own_ext (own_lit w _ w.heap.size 5 1 1 (Nat.le_refl _) (by decide) rfl) hx1) rfl (Row.of_own hown1) (u8_oneCell _) (by have := own_len hown1; have := enc_le10 (v := v / 128) (by omega); omega) (by have := own_len hown1; have := enc_le10 (v := v / 128) (by omega); unfold maxLen; omega) (by have := hx1.size; simp at this; omega) ?_); intro a2 c2 w2 hown2 hg2))
    go_ret
    have hz := hx1.size
    simp at hz
    refine ⟨a2, 1 + n1, c2, rfl, ?_, below_app (((Below.refl _ _).alloc (Nat.le_refl _) _).trans (hx1.mono (by simp))) (own_ext (own_lit w _ w.heap.size 5 1 1 (Nat.le_refl _) (by decide) rfl) hx1) hg2 (by omega)⟩
    rw [enc_ge (by omega), List.map_cons, u8_ofNat _ (by omega), rem128]
    exact hown2

set_option maxRecDepth 100000 in
theorem Fold_any (n : Int) (w : World) (h0 : -9223372036854775808 ≤ n) (h1 : n ≤ 9223372036854775807) :
    Calls Try.prog 19 #[.int .i64 n] w fun e w' => e = .returned (.int .u64 (Lib.zigzag n)) ∧ w = w' := by
  by_cases hn : 0 ≤ n
  · go_enter Try.func19, Try.ntmps19
    go_wp2
    go_ret
    exact ⟨ret_int (by unfold Lib.zigzag; rw [if_pos hn]; omega), rfl⟩
  · go_enter Try.func19, Try.ntmps19
    go_wp2
    go_ret
    exact ⟨ret_int (by unfold Lib.zigzag; rw [if_neg (by omega)]; omega), rfl⟩

theorem refText_any (s : ByteArray) (w : World) (hs : s.size ≤ 140737488355300) :
    Calls Try.prog 23 #[.string s] w (NewBytes w (enc s.size ++ s.data.toList)) := by
  have h10 := enc_le10 (v := s.size) (by omega)
  go_enter Try.func23, Try.ntmps23
  go_wp2_with (first
    | (go_at_call 18; refine (refUint_any s.size _ (by omega)).mono ?_; rintro e w1 ⟨a1, n1, c1, rfl, hown1, hx1⟩; have hm1 : n1 + s.size ≤ 140737488355328 := (by have := own_len hown1; omega); have hz1 := hx1.size)
    | (at_builtin; refine wpList_app_str rfl _ _ rfl Try.elB Try.underlying9 rfl hown1 rfl hm1 hz1 ?_; intro a2 c2 w2 hown2 hg2))
  go_ret
  exact ⟨a2, n1 + s.size, c2, rfl, hown2, below_app hx1 hown1 hg2 hz1⟩

theorem refBool_any (b : Bool) (w : World) :
    Calls Try.prog 24 #[.bool b] w (NewBytes w [if b then 1 else 0]) := by
  cases b
  all_goals
    go_enter Try.func24, Try.ntmps24
    go_wp2
    go_ret
    exact ⟨_, 1, 1, rfl, own_lit w _ _ _ 1 1 (Nat.le_refl _) (by decide) rfl, (Below.refl _ _).alloc (Nat.le_refl _) _⟩

end Go.Proofs.Yteifhemamedlgaa
