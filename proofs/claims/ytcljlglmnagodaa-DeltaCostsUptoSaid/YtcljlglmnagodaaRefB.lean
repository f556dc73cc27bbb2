/-
  Walks of layer 1's reference: the functions that decode.
-/
import Derived.Test.YtcljlglmnagodaaRefA
import Derived.Test.YtcljlglmnagodaaCodecB
namespace Go.Proofs.Ytcljlglmnagodaa
open Go.RowKit

def OpenRel (l : List UInt8) (i : Value) : Prop := ∃ k : Nat, i = .int .i64 k ∧ k ≤ l.length ∧ (l.take k).all (fun x => decide (128 ≤ x.toNat)) = true

theorem openB_no {l : List UInt8} {k : Nat} {x : UInt8} (h : l[k]? = some x) (hx : x.toNat < 128) : openB l = false := by
  obtain ⟨h1, h2⟩ := List.getElem?_eq_some_iff.1 h
  unfold openB
  rw [Bool.and_eq_false_iff]
  left
  rw [List.all_eq_false]
  exact ⟨x, by rw [← h2]; exact List.getElem_mem h1, by simp; omega⟩

set_option maxRecDepth 100000 in
theorem open_any (a : Option Addr) (n c : Nat) (l : List UInt8) (w : World) (hb : Bytes w a n c l) (hn : n ≤ 140737488355328) :
    Calls Try.prog 102 #[.slice a n c] w (Ret (.bool (openB l)) w) := by
  have hl := hb.len
  have HL := Lib.hid hl
  clear hl
  go_enter Try.func102, Try.ntmps102
  go_wp2
  go_loop [7] (OpenRel l) (fun i => n - (intOf i).toNat)
  case atStart => exact ⟨0, rfl, by omega, rfl⟩
  case round =>
    obtain ⟨k, rfl, hk, ha⟩ := hrel
    have HA := Lib.hid ha
    have hk' : k ≤ n := by have := HL.out; omega
    clear ha hk
    by_cases h0 : k < n
    · obtain ⟨x, hx⟩ := hb.get h0
      have HX := Lib.hid hx
      clear hx
      by_cases h128 : 128 ≤ x.toNat
      · go_wp2_with (with_reducible refine wpList_ixB rfl (.tmp 5) (.tmp 7) rfl Try.elB rfl hb k rfl rfl x HX.out ?_; intro p hp)
        go_round
        case rel => exact ⟨k + 1, by go_num, by have := HL.out; omega, all_take_succ HX.out HA.out h128⟩
        case measure => simp [intOf]; omega
      · have HO := Lib.hid (openB_no HX.out (by omega))
        go_wp2_with (with_reducible refine wpList_ixB rfl (.tmp 5) (.tmp 7) rfl Try.elB rfl hb k rfl rfl x HX.out ?_; intro p hp)
        go_ret
        rw [HO.out]
        exact ⟨rfl, rfl⟩
    · have hall : openB l = decide (n < 10) := by
        have e := HA.out
        rw [List.take_of_length_le (by have := HL.out; omega)] at e
        unfold openB
        rw [e, HL.out]; rfl
      have HO := Lib.hid hall
      clear hall
      go_wp2
      go_ret
      rw [HO.out]
      exact ⟨ret_bool (by simp; omega), rfl⟩

theorem step_bound (acc i : Nat) (x : UInt8) (hacc : acc < 128 ^ i) (hi : i ≤ 8 ∨ i ≤ 9 ∧ x.toNat ≤ 1) : acc + x.toNat % 128 * 128 ^ i < 2 ^ 64 := by
  rcases hi with hi | ⟨hi, hx⟩
  · have hmul : (x.toNat % 128 + 1) * 128 ^ i ≤ 128 * 128 ^ i := Nat.mul_le_mul_right _ (by omega)
    rw [Nat.add_mul, Nat.one_mul] at hmul
    have h0 : 128 * 128 ^ i = 128 ^ (i + 1) := by rw [Nat.pow_succ]; omega
    have h1 : 128 ^ (i + 1) ≤ 128 ^ 9 := Nat.pow_le_pow_right (by decide) (by omega)
    have h2 : (128 : Nat) ^ 9 = 2 ^ 63 := by decide
    omega
  · have h1 : 128 ^ i ≤ 128 ^ 9 := Nat.pow_le_pow_right (by decide) hi
    have h2 : (128 : Nat) ^ 9 = 2 ^ 63 := by decide
    have h3 : x.toNat % 128 * 128 ^ i ≤ 1 * 128 ^ i := Nat.mul_le_mul_right _ (by omega)
    omega
theorem take_sum (acc i : Nat) (x : UInt8) (hacc : acc < 128 ^ i) (hi : i ≤ 8 ∨ i ≤ 9 ∧ x.toNat ≤ 1) :
    IntKind.u64.wrap ((acc : Int) + IntKind.u64.wrap ((x.toNat : Int) % 128 * 128 ^ i)) = ((acc + x.toNat % 128 * 128 ^ i : Nat) : Int) := by
  have hb := step_bound acc i x hacc hi
  have e : (x.toNat : Int) % 128 * 128 ^ i = ((x.toNat % 128 * 128 ^ i : Nat) : Int) := by simp
  rw [e, IntKind.wrap_u64, IntKind.wrap_u64]
  omega
theorem place_step (i : Nat) (hi : i ≤ 8) : IntKind.u64.wrap ((128 : Int) ^ i * 128) = ((128 ^ (i + 1) : Nat) : Int) := by
  have e : (128 : Int) ^ i * 128 = ((128 ^ (i + 1) : Nat) : Int) := by rw [Nat.pow_succ]; simp
  have h1 : 128 ^ (i + 1) ≤ 128 ^ 9 := Nat.pow_le_pow_right (by decide) (by omega)
  have h2 : (128 : Nat) ^ 9 = 2 ^ 63 := by decide
  rw [e, IntKind.wrap_u64]
  clear e
  generalize 128 ^ (i + 1) = q at *
  omega

def TakeRel (rest : List UInt8) (v place i : Value) : Prop :=
  ∃ (k acc : Nat), v = .int .u64 acc ∧ place = .int .u64 ((128 ^ k : Nat) : Int) ∧ i = .int .i64 k ∧ acc < 128 ^ k ∧ k ≤ 9 ∧ k ≤ rest.length ∧ decF k acc (rest.drop k) = decU rest ∧ (rest.take k).all (fun x => decide (128 ≤ x.toNat)) = true

set_option maxRecDepth 100000 in
set_option maxHeartbeats 1000000 in
theorem TakeUint_any (a : Option Addr) (n c : Nat) (l : List UInt8) (at_ : Int) (w : World) (hb : Bytes w a n c l) (hn : n ≤ 140737488355328) :
    Calls Try.prog 86 #[.slice a n c, .int .i64 at_] w (Ret (uintV (uintRes l at_)) w) := by
  have hl := hb.len
  by_cases hp : at_ < 0 ∨ (n : Int) < at_
  · have hr : uintRes l at_ = (0, 0, 10) := uintRes_out (by omega)
    rw [hr]
    clear hr hl
    rcases hp with hp | hp
    all_goals
      go_enter Try.func86, Try.ntmps86
      go_wp2
      go_ret3
      exact ⟨rfl, rfl⟩
  · obtain ⟨k, rfl⟩ := Int.eq_ofNat_of_zero_le (show 0 ≤ at_ by omega)
    have hk : k ≤ n := by omega
    obtain ⟨rest, hrest⟩ : ∃ rest, rest = l.drop k := ⟨_, rfl⟩
    have hlen : rest.length = n - k := by rw [hrest, List.length_drop, hl]
    have HLk : Hid (k ≤ l.length) := show k ≤ l.length by omega
    have HL := Lib.hid hlen
    have HR := Lib.hid hrest
    clear hl hlen hrest hp
    by_cases ho : openB rest = true
    · have hr := uintRes_no HLk.out (HR.out ▸ decU_open ho) (by decide)
      rw [hr]
      have HO := Lib.hid ho
      clear ho hr
      go_enter Try.func86, Try.ntmps86
      go_wp2_with (first
        | (with_reducible refine wpList_sl_lo rfl (.tmp 20) (.tmp 21) rfl Try.elB rfl hb.row k rfl rfl hk ?_; intro a1 hr1; have hb1 : Bytes w a1 (n - k) (c - k) rest := (by rw [HR.out]; exact Bytes.drop hr1))
        | (go_at_call 102; refine (open_any _ _ _ rest _ hb1 (by omega)).mono ?_; rw [HO.out]; rintro e w1 ⟨rfl, rfl⟩))
      go_ret3
      exact ⟨rfl, rfl⟩
    · have HO := Lib.hid (Bool.eq_false_iff.2 ho)
      clear ho
      go_enter Try.func86, Try.ntmps86
      go_wp2_with (first
        | (with_reducible refine wpList_sl_lo rfl (.tmp 20) (.tmp 21) rfl Try.elB rfl hb.row k rfl rfl hk ?_; intro a1 hr1; have hb1 : Bytes w a1 (n - k) (c - k) rest := (by rw [HR.out]; exact Bytes.drop hr1))
        | (go_at_call 102; refine (open_any _ _ _ rest _ hb1 (by omega)).mono ?_; rw [HO.out]; rintro e w1 ⟨rfl, rfl⟩))
      clear hr1
      go_loop [8, 9, 10] (TakeRel rest) (fun _ _ i => (n - k) - (intOf i).toNat)
      case atStart => exact ⟨0, 0, rfl, rfl, rfl, by simp, by omega, by omega, rfl, rfl⟩
      case round =>
        obtain ⟨i, acc, rfl, rfl, rfl, hacc, hi, hir, hdec, hall⟩ := hrel
        have HD := Lib.hid hdec
        have HA := Lib.hid hall
        clear hdec hall
        have hir' : i ≤ n - k := by have := HL.out; omega
        clear hir
        by_cases h0 : i < n - k
        · obtain ⟨x, hx⟩ := hb1.get h0
          have HX := Lib.hid hx
          clear hx
          by_cases h9 : i ≤ 8
          · by_cases h128 : 128 ≤ x.toNat
            · go_wp2_with (with_reducible refine wpList_ixB rfl (.tmp 35) (.tmp 36) rfl Try.elB rfl hb1 i rfl rfl x HX.out ?_; intro p hp)
              have hs := take_sum acc i x hacc (.inl h9)
              have hs2 := (step_or acc i x hacc (.inl h9)).2
              go_round
              case rel => exact ⟨i + 1, _, by rw [hs], by rw [place_step i h9], by go_num, hs2, by omega, by have := HL.out; omega, dec_step HX.out HD.out (by omega) h128, all_take_succ HX.out HA.out h128⟩
              case measure => simp [intOf]; omega
            · by_cases hz : 1 ≤ x.toNat ∨ x.toNat ≤ 0 ∧ i ≤ 0
              · have hr := uintRes_ok HLk.out (HR.out ▸ dec_done HX.out HD.out (by omega) (by omega) (by omega))
                have HR' := Lib.hid hr
                have HS := Lib.hid (take_sum acc i x hacc (.inl h9))
                clear hr
                rcases hz with hz | ⟨hz, hz'⟩
                · go_wp2_with (with_reducible refine wpList_ixB rfl (.tmp 35) (.tmp 36) rfl Try.elB rfl hb1 i rfl rfl x HX.out ?_; intro p hp)
                  go_ret3
                  rw [HR'.out]
                  exact ⟨uint_ret HS.out (by simp; omega) rfl, rfl⟩
                · obtain rfl : i = 0 := by omega
                  have hx0 : x = 0 := UInt8.toNat_inj.1 (by simp; omega)
                  subst hx0
                  go_wp2_with (with_reducible refine wpList_ixB rfl (.tmp 35) (.tmp 36) rfl Try.elB rfl hb1 0 rfl rfl 0 HX.out ?_; intro p hp)
                  go_ret3
                  rw [HR'.out]
                  exact ⟨uint_ret (by simp) (by simp) rfl, rfl⟩
              · have hr := uintRes_no HLk.out (HR.out ▸ dec_zero HX.out HD.out (by omega)) (by decide)
                have HR' := Lib.hid hr
                clear hr
                have hz1 : x.toNat ≤ 0 := by omega
                have hz2 : 1 ≤ i := by omega
                clear hz
                go_wp2_with (with_reducible refine wpList_ixB rfl (.tmp 35) (.tmp 36) rfl Try.elB rfl hb1 i rfl rfl x HX.out ?_; intro p hp)
                go_ret3
                rw [HR'.out]
                exact ⟨rfl, rfl⟩
          · by_cases h1 : x.toNat ≤ 0 ∨ 2 ≤ x.toNat
            · have hr := uintRes_no HLk.out (HR.out ▸ dec_nine HX.out HD.out (by omega)) (by decide)
              have HR' := Lib.hid hr
              clear hr
              have h9' : 9 ≤ i := by omega
              rcases h1 with h1 | h1
              all_goals
                go_wp2_with (with_reducible refine wpList_ixB rfl (.tmp 35) (.tmp 36) rfl Try.elB rfl hb1 i rfl rfl x HX.out ?_; intro p hp)
                go_ret3
                rw [HR'.out]
                exact ⟨rfl, rfl⟩
            · have h2 : x.toNat ≤ 1 := by omega
              have h3 : 1 ≤ x.toNat := by omega
              clear h1
              have hr := uintRes_ok HLk.out (HR.out ▸ dec_done HX.out HD.out (by omega) (by omega) (by omega))
              have HR' := Lib.hid hr
              have HS := Lib.hid (take_sum acc i x hacc (.inr ⟨hi, h2⟩))
              clear hr
              go_wp2_with (with_reducible refine wpList_ixB rfl (.tmp 35) (.tmp 36) rfl Try.elB rfl hb1 i rfl rfl x HX.out ?_; intro p hp)
              go_ret3
              rw [HR'.out]
              obtain rfl : i = 9 := by omega
              exact ⟨uint_ret HS.out (by simp; omega) rfl, rfl⟩
        · exfalso
          have e := HA.out
          rw [List.take_of_length_le (by have := HL.out; omega)] at e
          have := HO.out
          unfold openB at this
          rw [e] at this
          have := HL.out
          simp at *
          omega

end Go.Proofs.Ytcljlglmnagodaa
