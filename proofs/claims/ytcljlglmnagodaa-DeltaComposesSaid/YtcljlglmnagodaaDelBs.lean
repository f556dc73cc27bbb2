/-
  Binary search in a list of ints.
-/
import Derived.Test.YtcljlglmnagodaaDelV
import Derived.Test.YtcljlglmnagodaaDelP
namespace Go.Proofs.Ytcljlglmnagodaa
open Go.RowKit

set_option maxRecDepth 100000 in
theorem cmpNaN_any (x : Int) (w : World) : Calls Try.prog 112 #[.int .i64 x] w (Ret (.bool false) w) := by
  go_enter Try.func112, Try.ntmps112
  go_wp2
  go_ret
  exact ⟨by simp, rfl⟩
set_option maxRecDepth 100000 in
theorem slicesNaN_any (x : Int) (w : World) : Calls Try.prog 107 #[.int .i64 x] w (Ret (.bool false) w) := by
  go_enter Try.func107, Try.ntmps107
  go_wp2
  go_ret
  exact ⟨by simp, rfl⟩
set_option maxRecDepth 100000 in
theorem Less_any (x y : Int) (w : World) : Calls Try.prog 106 #[.int .i64 x, .int .i64 y] w (Ret (.bool (decide (x < y))) w) := by
  go_enter Try.func106, Try.ntmps106
  go_wp2_with (first
    | (go_at_call 112; (with_reducible refine (cmpNaN_any _ _).mono ?_); rintro e w1 ⟨rfl, rfl⟩)
    | fail)
  go_ret
  exact ⟨rfl, rfl⟩

def BiRel (w : World) (bs : List Int) (x : Int) (i j : Value) (wr : World) : Prop :=
  ∃ p q : Nat, i = .int .i64 p ∧ j = .int .i64 q ∧ p ≤ q ∧ q ≤ bs.length ∧ (∀ (r : Nat) (b : Int), r < p → bs[r]? = some b → b < x) ∧ (∀ (r : Nat) (b : Int), q ≤ r → bs[r]? = some b → x ≤ b) ∧ wr = w
def BiPost (w : World) (bs : List Int) (x : Int) (e : Ending) (w' : World) : Prop :=
  ∃ p : Nat, p ≤ bs.length ∧ (∀ (r : Nat) (b : Int), r < p → bs[r]? = some b → b < x) ∧ (∀ (r : Nat) (b : Int), p ≤ r → bs[r]? = some b → x ≤ b) ∧ e = .returned (.tuple #[.int .i64 p, .bool (decide (bs[p]? = some x))]) ∧ w = w'

set_option maxRecDepth 100000 in
set_option maxHeartbeats 4000000 in
theorem BinarySearch_any (a : Option Addr) (n c : Nat) (bs : List Int) (x : Int) (w : World) (hr : Row w a n c 1 (bs.map (Value.int .i64))) (hlen : bs.length = n) (hn : n ≤ 1000000000000) (hm : ∀ (r s : Nat) (b d : Int), r ≤ s → bs[r]? = some b → bs[s]? = some d → b ≤ d) :
    Calls Try.prog 97 #[.slice a n c, .int .i64 x] w (BiPost w bs x) := by
  have HLN := Lib.hid hlen
  have HM := Lib.hid hm
  clear hlen hm
  go_enter Try.func97, Try.ntmps97
  go_wp2
  go_loopw [7, 8] (BiRel w bs x) (fun i j _ => (intOf j).toNat - (intOf i).toNat)
  case atStart => exact ⟨0, n, rfl, rfl, by omega, by have := HLN.out; omega, (fun r b h => by omega), (fun r b h hk => by have := (List.getElem?_eq_some_iff.1 hk).1; have := HLN.out; omega), rfl⟩
  case round =>
    obtain ⟨p, q, rfl, rfl, hpq, hq, hlo, hhi, rfl⟩ := hrel
    have HLo := Lib.hid hlo
    have HHi := Lib.hid hhi
    clear hlo hhi
    have hqn : q ≤ n := by have := HLN.out; omega
    by_cases hlt : p < q
    · obtain ⟨h, hh⟩ : ∃ h : Nat, h = (p + q) / 2 := ⟨_, rfl⟩
      have hhn : h < n := by omega
      obtain ⟨b, hb⟩ : ∃ b, bs[h]? = some b := ⟨_, List.getElem?_eq_getElem (by have := HLN.out; omega)⟩
      have HB := Lib.hid hb
      clear hb
      by_cases hlx : b < x
      · have hd : decide (b < x) = true := decide_eq_true hlx
        go_wp2_with (first
          | ((with_reducible refine atSlot 24 ?_); refine wpList_of_wp rfl (owp_ix (o := ⟨some 24, _, _, _, _, _⟩) _ _ rfl Try.elI rfl hr h rfl (by omega) hhn ?_); intro b3 o3 hc3; have hd3 : wr.cell? ⟨b3, o3, none⟩ = some (.int .i64 b) := (by have h0 := hc3 0 (by decide); rw [Nat.add_zero, Nat.mul_one, Nat.add_zero] at h0; rw [h0, List.getElem?_map, HB.out]; rfl); clear hc3)
          | (go_at_call 106; (with_reducible refine (Less_any b x _).mono ?_); rintro e w1 ⟨rfl, rfl⟩)
          | fail)
        go_roundw
        case rel =>
          refine ⟨h + 1, q, by congr 1; omega, rfl, by omega, hq, fun r d hr' hd' => ?_, HHi.out, rfl⟩
          have h1 := HM.out r h d b (by omega) hd' HB.out
          omega
        case measure => simp [intOf]; omega
      · have hd : decide (b < x) = false := decide_eq_false hlx
        go_wp2_with (first
          | ((with_reducible refine atSlot 24 ?_); refine wpList_of_wp rfl (owp_ix (o := ⟨some 24, _, _, _, _, _⟩) _ _ rfl Try.elI rfl hr h rfl (by omega) hhn ?_); intro b3 o3 hc3; have hd3 : wr.cell? ⟨b3, o3, none⟩ = some (.int .i64 b) := (by have h0 := hc3 0 (by decide); rw [Nat.add_zero, Nat.mul_one, Nat.add_zero] at h0; rw [h0, List.getElem?_map, HB.out]; rfl); clear hc3)
          | (go_at_call 106; (with_reducible refine (Less_any b x _).mono ?_); rintro e w1 ⟨rfl, rfl⟩)
          | fail)
        go_roundw
        case rel =>
          refine ⟨p, h, rfl, by congr 1; omega, by omega, by omega, HLo.out, fun r d hr' hd' => ?_, rfl⟩
          have h1 := HM.out h r b d hr' HB.out hd'
          omega
        case measure => simp [intOf]; omega
    · obtain rfl : p = q := by omega
      by_cases hpn : p < n
      · obtain ⟨d, hd⟩ : ∃ d, bs[p]? = some d := ⟨_, List.getElem?_eq_getElem (by have := HLN.out; omega)⟩
        have HD := Lib.hid hd
        clear hd
        by_cases hdx : d = x
        · have he : decide (d = x) = true := decide_eq_true hdx
          have hf : decide (bs[p]? = some x) = true := decide_eq_true (by rw [HD.out, hdx])
          have HF := Lib.hid hf
          have HX := Lib.hid hdx
          clear hf hdx
          go_wp2_with (first
            | ((with_reducible refine atSlot 38 ?_); refine wpList_of_wp rfl (owp_ix (o := ⟨some 38, _, _, _, _, _⟩) _ _ rfl Try.elI rfl hr p rfl rfl hpn ?_); intro b3 o3 hc3; have hd3 : wr.cell? ⟨b3, o3, none⟩ = some (.int .i64 d) := (by have h0 := hc3 0 (by decide); rw [Nat.add_zero, Nat.mul_one, Nat.add_zero] at h0; rw [h0, List.getElem?_map, HD.out]; rfl); clear hc3)
            | fail)
          go_ret2
          exact ⟨p, hq, HLo.out, HHi.out, by rw [HF.out]; rfl, rfl⟩
        · have he : (d == x) = false := by simpa using hdx
          have hf : decide (bs[p]? = some x) = false := decide_eq_false (by rw [HD.out]; simpa using hdx)
          have HF := Lib.hid hf
          clear hf
          go_wp2_with (first
            | ((with_reducible refine atSlot 38 ?_); refine wpList_of_wp rfl (owp_ix (o := ⟨some 38, _, _, _, _, _⟩) _ _ rfl Try.elI rfl hr p rfl rfl hpn ?_); intro b3 o3 hc3; have hd3 : wr.cell? ⟨b3, o3, none⟩ = some (.int .i64 d) := (by have h0 := hc3 0 (by decide); rw [Nat.add_zero, Nat.mul_one, Nat.add_zero] at h0; rw [h0, List.getElem?_map, HD.out]; rfl); clear hc3)
            | ((with_reducible refine atSlot 45 ?_); refine wpList_of_wp rfl (owp_ix (o := ⟨some 45, _, _, _, _, _⟩) _ _ rfl Try.elI rfl hr p rfl rfl hpn ?_); intro b4 o4 hc3; have hd4 : wr.cell? ⟨b4, o4, none⟩ = some (.int .i64 d) := (by have h0 := hc3 0 (by decide); rw [Nat.add_zero, Nat.mul_one, Nat.add_zero] at h0; rw [h0, List.getElem?_map, HD.out]; rfl); clear hc3)
            | (go_at_call 107; (with_reducible refine (slicesNaN_any _ _).mono ?_); rintro e w1 ⟨rfl, rfl⟩)
            | fail)
          go_ret2
          exact ⟨p, hq, HLo.out, HHi.out, by rw [HF.out]; rfl, rfl⟩
      · have hf : decide (bs[p]? = some x) = false := decide_eq_false (by rw [List.getElem?_eq_none (by have := HLN.out; omega)]; simp)
        have HF := Lib.hid hf
        clear hf
        go_wp2
        go_ret2
        exact ⟨p, hq, HLo.out, HHi.out, by rw [HF.out]; rfl, rfl⟩
end Go.Proofs.Ytcljlglmnagodaa
