/-
  Walks of the laws of layer 1: what they share: same, awake.
-/
import Derived.Test.YteifhemamedlgaaRefB
import Derived.Test.YteifhemamedlgaaFrame
namespace Go.Proofs.Yteifhemamedlgaa
open Go.RowKit

theorem same_any (a b : Option Addr) (n m c d : Nat) (l k : List UInt8) (w : World) (ha : Bytes w a n c l) (hb : Bytes w b m d k) :
    Calls Try.prog 17 #[.slice a n c, .slice b m d] w (Ret (.bool (l == k)) w) := by
  have h1 := ha.conv (P := Try.prog) 22 5 9 Try.underlying22 Try.underlying5 Try.underlying9
  have h2 := hb.conv (P := Try.prog) 22 5 9 Try.underlying22 Try.underlying5 Try.underlying9
  go_enter Try.func17, Try.ntmps17
  go_wp2
  go_ret
  exact ⟨rfl, rfl⟩

theorem enc_300 : enc 300 = [172, 2] := by rw [enc_ge (by decide), enc_lt (by decide)]; rfl
theorem enc_m1 : enc (Lib.zigzag (-1)) = [1] := by rw [show Lib.zigzag (-1) = 1 by decide, enc_lt (by decide)]; rfl
theorem enc_2 : enc 2 = [2] := by rw [enc_lt (by decide)]; rfl

set_option maxRecDepth 100000 in
set_option maxHeartbeats 1000000 in
theorem awake_any (w : World) : Calls Try.prog 14 #[] w (LawPost w) := by
  go_enter Try.func14, Try.ntmps14
  go_wp2_with (first
    | (go_at_call 15; (refine (PutUint_any none 0 0 [] 300 _ (Bytes.nil _) (by decide) (by decide)).mono ?_); rintro e w1 ⟨a1, n1, c1, rfl, ho1, hx1⟩; rw [List.nil_append, enc_300] at ho1; have hn1 : n1 ≤ 140737488355328 := (by have := own_len ho1; simp at this; omega))
    | (go_at_call 20; (refine (Uint_as a1 n1 c1 [172, 2] 0 _ (Bytes.of_own ho1) hn1 (v := 300) (nx := 2) (e := 0) (by decide)).mono ?_); rintro e w1 ⟨rfl, rfl⟩)
    | (go_at_call 16; (refine (PutInt_any none 0 0 [] (-1) _ (Bytes.nil _) (by decide) (by decide) (by decide)).mono ?_); rintro e w2 ⟨a2, n2, c2, rfl, ho2, hx2⟩; rw [List.nil_append, enc_m1] at ho2; have hc2 := (Bytes.of_own ho2).conv (P := Try.prog) 22 5 9 Try.underlying22 Try.underlying5 Try.underlying9)
    | (go_at_call 21; (refine (PutText_any _ 1 1 [7] ⟨#[97, 98]⟩ _ (Bytes.of_own (own_lit _ _ 0 _ 1 1 (Nat.zero_le _) (by decide) rfl)) (by decide)).mono ?_); rintro e w3 ⟨a3, n3, c3, rfl, ho3, hx3⟩; have hc3 := (Bytes.of_own ho3).conv (P := Try.prog) 22 5 9 Try.underlying22 Try.underlying5 Try.underlying9; rw [show ([7] ++ (enc (ByteArray.mk #[97, 98]).size ++ (ByteArray.mk #[97, 98]).data.toList)) = [7, 2, 97, 98] from (by rw [show (ByteArray.mk #[97, 98]).size = 2 from rfl, enc_2]; rfl)] at hc3))
  go_ret
  exact ⟨rfl, ((hx1.trans' hx2).trans' (Ext.alloc' _ _)).trans' hx3⟩

end Go.Proofs.Yteifhemamedlgaa
