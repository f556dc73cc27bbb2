/-
  The law DeltaBounds.
-/
import Derived.Test.YtcljlglmnagodaaDelL
namespace Go.Proofs.Ytcljlglmnagodaa
open Go.RowKit

set_option maxRecDepth 100000 in
set_option maxHeartbeats 4000000 in
theorem DeltaBounds_walk (n0 : Int) (a : Option Addr) (n c : Nat) (l : List UInt8) (w : World) (_h0 : -9223372036854775808 ≤ n0) (_h1 : n0 ≤ 9223372036854775807) (hb : Bytes w a n c l) (hs : n ≤ 140737488351232) :
    Calls Try.prog 4 #[.int .i64 n0, .slice a n c] w (LawPost w) := by
  have HL := Lib.hid hb.len
  by_cases h64 : 64 < n
  · have hd : decide ((64 : Int) < n) = true := decide_eq_true (by omega)
    go_enter Try.func4, Try.ntmps4
    go_wp2
    go_ret
    exact ⟨rfl, Below.refl _ _⟩
  · have hd : decide ((64 : Int) < n) = false := decide_eq_false (by omega)
    go_enter Try.func4, Try.ntmps4
    go_wp2_with (first
      | (go_at_call 30; (with_reducible refine (makeFold_any n0 4 _ (by omega)).mono ?_); rintro e w1 ⟨u, rfl, hu, rfl⟩; refine Stop.of ?_)
      | fail)
    have hu3 : u ≤ 3 := by unfold Below1 at hu; omega
    have hz : zeros (.int .u8 0) (2047 + u) 1 = (List.replicate (2047 + u) (0 : UInt8)).map u8 := by rw [zeros_one rfl, List.map_replicate]; rfl
    have HZ := Lib.hid hz
    obtain ⟨D1, e1, hm1⟩ : ∃ D e, makeRes (List.replicate (2047 + u) 0) l = (D, e) := ⟨_, _, rfl⟩
    obtain ⟨D2, e2, hm2⟩ : ∃ D e, makeRes l (List.replicate (2047 + u) 0) = (D, e) := ⟨_, _, rfl⟩
    have HM1 := Lib.hid hm1
    have HM2 := Lib.hid hm2
    unfold makeRes at hm1 hm2
    rw [List.length_replicate, HL.out] at hm1 hm2
    clear hu hz hd
    refine Stop.out ?_
    by_cases hu1 : u ≤ 1
    · rw [if_neg (by omega)] at hm1 hm2
      simp only [Prod.mk.injEq] at hm1 hm2
      obtain ⟨-, rfl⟩ := hm1
      obtain ⟨-, rfl⟩ := hm2
      have hd : decide ((2048 : Int) < 2047 + (u : Int)) = false := decide_eq_false (by omega)
      have t1 : True := trivial
      go_wp2_with (first
        | ((with_reducible refine atSlot 18 ?_); refine wpList_mk (o := ⟨some 18, _, _, _, _, _⟩) rfl _ _ rfl Try.elB (2047 + u) (2047 + u) rfl rfl (by omega) (by omega) (Nat.le_refl _) (by omega) (by unfold maxLen; omega) ?_; intro g w2 ho2 hx2; rw [HZ.out] at ho2; have hb2 := Bytes.of_own ho2)
        | (go_at_call 26; have _t := t1; (with_reducible refine (Make_any _ _ _ _ _ _ _ _ _ hb2 (hb.ext hx2) (by omega) (by omega) HM1.out).mono ?_); rintro e w3 ⟨a3, n3, c3, L3, rfl, hL3, hD3, hx3⟩; clear hL3 hD3 t1)
        | (go_at_call 26; (with_reducible refine (Make_any _ _ _ _ _ _ _ _ _ ((hb.ext hx2).ext hx3) (hb2.ext hx3) (by omega) (by omega) HM2.out).mono ?_); rintro e w4 ⟨a4, n4, c4, L4, rfl, hL4, hD4, hx4⟩; clear hL4 hD4)
        | (go_at_call 28; (with_reducible refine (known_any _).mono ?_); rintro e w5 ⟨rfl, hx5⟩)
        | fail)
      go_ret
      exact ⟨rfl, ((hx2.trans' hx3).trans' hx4).trans' hx5⟩
    · rw [if_pos (by omega)] at hm1 hm2
      simp only [Prod.mk.injEq] at hm1 hm2
      obtain ⟨-, rfl⟩ := hm1
      obtain ⟨-, rfl⟩ := hm2
      have hd : decide ((2048 : Int) < 2047 + (u : Int)) = true := decide_eq_true (by omega)
      have t1 : True := trivial
      go_wp2_with (first
        | ((with_reducible refine atSlot 18 ?_); refine wpList_mk (o := ⟨some 18, _, _, _, _, _⟩) rfl _ _ rfl Try.elB (2047 + u) (2047 + u) rfl rfl (by omega) (by omega) (Nat.le_refl _) (by omega) (by unfold maxLen; omega) ?_; intro g w2 ho2 hx2; rw [HZ.out] at ho2; have hb2 := Bytes.of_own ho2)
        | (go_at_call 26; have _t := t1; (with_reducible refine (Make_any _ _ _ _ _ _ _ _ _ hb2 (hb.ext hx2) (by omega) (by omega) HM1.out).mono ?_); rintro e w3 ⟨a3, n3, c3, L3, rfl, hL3, hD3, hx3⟩; clear hL3 hD3 t1)
        | (go_at_call 26; (with_reducible refine (Make_any _ _ _ _ _ _ _ _ _ ((hb.ext hx2).ext hx3) (hb2.ext hx3) (by omega) (by omega) HM2.out).mono ?_); rintro e w4 ⟨a4, n4, c4, L4, rfl, hL4, hD4, hx4⟩; clear hL4 hD4)
        | (go_at_call 28; (with_reducible refine (known_any _).mono ?_); rintro e w5 ⟨rfl, hx5⟩)
        | fail)
      go_ret
      exact ⟨rfl, ((hx2.trans' hx3).trans' hx4).trans' hx5⟩
end Go.Proofs.Ytcljlglmnagodaa
