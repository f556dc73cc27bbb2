/-
  The law DeltaCosts.
-/
import Derived.Test.YtcljlglmnagodaaDelZ
import Derived.Test.YtcljlglmnagodaaDelQ
namespace Go.Proofs.Ytcljlglmnagodaa
open Go.RowKit

theorem cost_dec {D n : Nat} (h : D ≤ n + n / 2 + 4) : decide ((D : Int) ≤ (n : Int) + (n : Int) / 2 + 4) = true := decide_eq_true (by omega)
theorem cost_wrap {D : Nat} (h : D ≤ 140737488355300) : RowKit.wrap64 (D : Int) = (D : Int) := by unfold RowKit.wrap64; omega

set_option maxRecDepth 100000 in
set_option maxHeartbeats 4000000 in
theorem DeltaCosts_walk (a : Option Addr) (n c : Nat) (L : List Od) (a1 : Option Addr) (n1 c1 : Nat) (la : List UInt8) (a2 : Option Addr) (n2 c2 : Nat) (lb : List UInt8) (w : World) (hL : Ops w a n c L) (hn : n ≤ 140737488355328) (hT : (encD (L.map Od.d)).length ≤ 140737488355300)
    (h1 : Bytes w a1 n1 c1 la) (hs1 : n1 ≤ 140737488351232) (h2 : Bytes w a2 n2 c2 lb) (hs2 : n2 ≤ 140737488351232) :
    Calls Try.prog 9 #[.slice a n c, .slice a1 n1 c1, .slice a2 n2 c2] w (LawPost w) := by
  by_cases hb1 : 2048 < n1
  · have hd : decide ((2048 : Int) < n1) = true := decide_eq_true (by omega)
    go_enter Try.func9, Try.ntmps9
    go_wp2
    go_ret
    exact ⟨rfl, Below.refl _ _⟩
  have hd1 : decide ((2048 : Int) < n1) = false := decide_eq_false (by omega)
  by_cases hb2 : 2048 < n2
  · have hd : decide ((2048 : Int) < n2) = true := decide_eq_true (by omega)
    go_enter Try.func9, Try.ntmps9
    go_wp2
    go_ret
    exact ⟨rfl, Below.refl _ _⟩
  have hd2 : decide ((2048 : Int) < n2) = false := decide_eq_false (by omega)
  have hla := h1.len
  have hlb := h2.len
  have hmk : makeRes la lb = (makeD la lb, 0) := by unfold makeRes; rw [hla, hlb, if_neg (by omega)]
  have hcost := make_cost (b := la) (T := lb) (by omega) (by omega)
  rw [hlb] at hcost
  have hlen : (makeD la lb).length ≤ 2048 := by
    have h := length_size (make_inv la lb).nm.2
    rw [make_size] at h; omega
  obtain ⟨C, hC⟩ : ∃ C, C = costD (L.map Od.d) := ⟨_, rfl⟩
  have hC1 : C ≤ 140737488355300 := by
    rw [hC]; unfold costD
    split
    · exact hT
    · omega
  have hwC := cost_wrap hC1
  have hCo : ∀ w', Ext w w' → Calls Try.prog 40 #[.slice a n c] w' (NewNone (.int .i64 (C : Int)) w') := fun w' h => by
    have h := Cost_any a n c L w' (hL.ext h) hn; rw [← hC, hwC] at h; exact h
  have hRo : ∀ w', Ext w w' → Calls Try.prog 41 #[.slice a n c] w' (NewNone (.int .i64 (C : Int)) w') := fun w' h => by
    have h := refCost_any a n c L w' (hL.ext h) hn hT; rw [← hC] at h; exact h
  obtain ⟨D, hD⟩ : ∃ D, D = costD (makeD la lb) := ⟨_, rfl⟩
  rw [← hD] at hcost
  have hwD := cost_wrap (D := D) (Nat.le_trans hcost (by omega))
  have hdd := cost_dec hcost
  have HMK := Lib.hid hmk
  have HLEN := Lib.hid hlen
  have HD := Lib.hid hD
  have HWD := Lib.hid hwD
  have HCO := Lib.hid hCo
  have HRO := Lib.hid hRo
  have t1 : True := trivial
  clear hla hlb hmk hlen hC hD hwC hwD hCo hRo
  go_enter Try.func9, Try.ntmps9
  go_wp2_with (first
    | (go_at_call 26; (with_reducible refine (Make_any _ _ _ _ _ _ _ _ _ h1 h2 (by omega) (by omega) HMK.out).mono ?_); rintro e w3 ⟨a3, n3, c3, L3, rfl, hL3, hD3, hx3⟩; have hn3 : n3 ≤ 2048 := (by have h := HLEN.out; rw [← hD3, List.length_map, hL3.1] at h; exact h); have HD3 := Lib.hid hD3; clear hD3)
    | (go_at_call 28; (with_reducible refine (known_any _).mono ?_); rintro e w4 ⟨rfl, hx4⟩; have hx34 := hx3.trans' hx4)
    | (go_at_call 40; have _t := t1; (with_reducible refine (HCO.out _ hx34).mono ?_); rintro e w5 ⟨rfl, hx5⟩; clear t1; have hx35 := hx34.trans' hx5)
    | (go_at_call 41; (with_reducible refine (HRO.out _ hx35).mono ?_); rintro e w6 ⟨rfl, hx6⟩; have hx36 := hx35.trans' hx6; have hM := (by have h := Cost_any a3 n3 c3 L3 w6 (((hL3.ext hx4).ext hx5).ext hx6) (by omega); rw [HD3.out, ← HD.out, HWD.out] at h; exact h))
    | (go_at_call 40; (with_reducible refine hM.mono ?_); rintro e w7 ⟨rfl, hx7⟩; clear hM)
    | fail)
  go_ret
  exact ⟨rfl, hx36.trans' hx7⟩
end Go.Proofs.Ytcljlglmnagodaa
