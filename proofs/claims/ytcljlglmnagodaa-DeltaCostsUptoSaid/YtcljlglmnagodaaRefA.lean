/-
  Walks of layer 1's reference: the functions that encode.
-/
import Derived.Test.YtcljlglmnagodaaCodecA
namespace Go.Proofs.Ytcljlglmnagodaa
open Go.RowKit

theorem rem128 (v : Nat) : ((v % 128 + 128 : Nat) : Int) = (v : Int) % 128 + 128 := by omega

set_option maxRecDepth 100000 in
theorem refUint_any (v : Nat) : ∀ (w : World), (v : Int) ≤ 18446744073709551615 →
    Calls Try.prog 96 #[.int .u64 v] w (NewBytes w (enc v)) := by
  induction v using Nat.strongRecOn with
  | _ v ih =>
  intro w hv
  have IH := Lib.hid ih; clear ih
  by_cases h : v < 128
  · go_enter Try.func96, Try.ntmps96
    go_wp2
    go_ret
    refine ⟨_, 1, 1, rfl, ?_, (Below.refl _ _).alloc (Nat.le_refl _) _⟩
    rw [enc_lt h, List.map_cons, List.map_nil, u8_ofNat _ (by omega)]
    exact own_lit w _ _ _ 1 1 (Nat.le_refl _) (by decide) rfl
  · go_enter Try.func96, Try.ntmps96
    go_wp2_with (first
      | (go_at_call 96; go_loud (refine (IH.out (v / 128) (by omega) _ (by omega)).mono ?_); rintro e w1 ⟨a1, n1, c1, rfl, hown1, hx1⟩)
      | (at_builtin; go_loud (refine wpList_app rfl _ _ rfl Try.elB rfl (own_ext (own_lit w _ w.heap.size 5 1 1 (Nat.le_refl _) (by decide) rfl) hx1) rfl (Row.of_own hown1) (u8_oneCell _) (by have := own_len hown1; have := enc_le10 (v := v / 128) (by omega); omega) (by have := own_len hown1; have := enc_le10 (v := v / 128) (by omega); unfold maxLen; omega) (by have := hx1.size; simp at this; omega) ?_); intro a2 c2 w2 hown2 hg2))
    go_ret
    have hz := hx1.size
    simp at hz
    refine ⟨a2, 1 + n1, c2, rfl, ?_, below_app (((Below.refl _ _).alloc (Nat.le_refl _) _).trans (hx1.mono (by simp))) (own_ext (own_lit w _ w.heap.size 5 1 1 (Nat.le_refl _) (by decide) rfl) hx1) hg2 (by omega)⟩
    rw [enc_ge (by omega), List.map_cons, u8_ofNat _ (by omega), rem128]
    exact hown2

end Go.Proofs.Ytcljlglmnagodaa
