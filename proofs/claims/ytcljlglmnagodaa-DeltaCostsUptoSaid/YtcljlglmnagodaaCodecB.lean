/-
  Walks of layer 1: the functions that decode.
-/
import Derived.Test.YtcljlglmnagodaaCodecA
namespace Go.Proofs.Ytcljlglmnagodaa
open Go.RowKit

/-- What Uint returns. -/
def uintV (r : Nat × Int × Int) : Value := .tuple #[.int .u64 r.1, .int .i64 r.2.1, .int .i64 r.2.2]

theorem uint_ret {A B C : Int} {r : Nat × Int × Int} (h1 : A = r.1) (h2 : B = r.2.1) (h3 : C = r.2.2) : Ending.returned (.tuple #[.int .u64 A, .int .i64 B, .int .i64 C]) = .returned (uintV r) := by
  subst h1 h2 h3; rfl

theorem and_127 (x : UInt8) : bits BinOp.and IntKind.u8 (x.toNat : Int) 127 = ((x.toNat % 128 : Nat) : Int) := by
  have e := u8_and_nat x.toNat 127 x.toNat_lt (by decide)
  have e2 : x.toNat &&& 127 = x.toNat % 128 := Nat.and_two_pow_sub_one_eq_mod x.toNat 7
  rw [e2] at e
  exact e

theorem pow_two_seven (i : Nat) : 2 ^ (7 * i) = 128 ^ i := by rw [Nat.pow_mul]

/-- The group that is laid in: an addition. -/
theorem step_or (acc i : Nat) (x : UInt8) (hacc : acc < 128 ^ i) (hi : i ≤ 8 ∨ i ≤ 9 ∧ x.toNat ≤ 1) :
    bits BinOp.or IntKind.u64 (acc : Int) (IntKind.u64.wrap (IntKind.u64.wrap (bits BinOp.and IntKind.u8 (x.toNat : Int) 127) * 2 ^ (7 * i))) = ((acc + x.toNat % 128 * 128 ^ i : Nat) : Int) ∧
      acc + x.toNat % 128 * 128 ^ i < 128 ^ (i + 1) := by
  have hmul : x.toNat % 128 * 128 ^ i + 128 ^ i ≤ 128 ^ (i + 1) := by
    have h : (x.toNat % 128 + 1) * 128 ^ i ≤ 128 * 128 ^ i := Nat.mul_le_mul_right _ (by omega)
    rw [Nat.add_mul, Nat.one_mul] at h
    rw [Nat.pow_succ]; omega
  have hsum : acc + x.toNat % 128 * 128 ^ i < 2 ^ 64 := by
    rcases hi with hi | ⟨hi, hx⟩
    · have h1 : 128 ^ (i + 1) ≤ 128 ^ 9 := Nat.pow_le_pow_right (by decide) (by omega)
      have h2 : (128 : Nat) ^ 9 = 2 ^ 63 := by decide
      omega
    · have h1 : 128 ^ i ≤ 128 ^ 9 := Nat.pow_le_pow_right (by decide) hi
      have h2 : (128 : Nat) ^ 9 = 2 ^ 63 := by decide
      have h3 : x.toNat % 128 * 128 ^ i ≤ 1 * 128 ^ i := Nat.mul_le_mul_right _ (by omega)
      omega
  refine ⟨?_, by omega⟩
  rw [and_127, IntKind.wrap_u64, IntKind.wrap_u64]
  have e1 : ((x.toNat % 128 : Nat) : Int) % 18446744073709551616 = ((x.toNat % 128 : Nat) : Int) := by omega
  have e2 : ((x.toNat % 128 : Nat) : Int) * 2 ^ (7 * i) = ((x.toNat % 128 * 128 ^ i : Nat) : Int) := by
    rw [Int.natCast_mul, ← pow_two_seven]; simp
  rw [e1, e2]
  have e3 : ((x.toNat % 128 * 128 ^ i : Nat) : Int) % 18446744073709551616 = ((x.toNat % 128 * 128 ^ i : Nat) : Int) := by omega
  rw [e3, u64_or_nat _ _ (by omega) (by omega)]
  congr 1
  rw [← pow_two_seven] at hacc ⊢
  have := Nat.two_pow_add_eq_or_of_lt hacc (x.toNat % 128)
  rw [Nat.or_comm, Nat.mul_comm, ← this, Nat.add_comm]

def UintRel (rest : List UInt8) (v i : Value) : Prop := ∃ (k acc : Nat), v = .int .u64 acc ∧ i = .int .i64 k ∧ acc < 128 ^ k ∧ k ≤ 9 ∧ k ≤ rest.length ∧ decF k acc (rest.drop k) = decU rest

set_option maxRecDepth 100000 in
set_option maxHeartbeats 1000000 in
theorem Uint_any (a : Option Addr) (n c : Nat) (l : List UInt8) (at_ : Int) (w : World) (hb : Bytes w a n c l) (hn : n ≤ 140737488355328) :
    Calls Try.prog 101 #[.slice a n c, .int .i64 at_] w (Ret (uintV (uintRes l at_)) w) := by
  have hl := hb.len
  by_cases hp : at_ < 0 ∨ (n : Int) < at_
  · have hr : uintRes l at_ = (0, 0, 10) := uintRes_out (by omega)
    rw [hr]
    clear hr hl
    rcases hp with hp | hp
    all_goals
      go_enter Try.func101, Try.ntmps101
      go_wp2
      go_ret3
      exact ⟨rfl, rfl⟩
  · obtain ⟨k, rfl⟩ := Int.eq_ofNat_of_zero_le (show 0 ≤ at_ by omega)
    have hk : k ≤ n := by omega
    obtain ⟨rest, hrest⟩ : ∃ rest, rest = l.drop k := ⟨_, rfl⟩
    have hlen : rest.length = n - k := by rw [hrest, List.length_drop, hl]
    have HLk : Hid (k ≤ l.length) := show k ≤ l.length by omega
    have HL := Lib.hid hlen
    have HR := Lib.hid hrest
    clear hl hlen hrest hp
    go_enter Try.func101, Try.ntmps101
    go_wp2_with (with_reducible refine wpList_sl_lo rfl (.tmp 17) (.tmp 18) rfl Try.elB rfl hb.row k rfl rfl hk ?_; intro a1 hr1)
    have hb1 : Bytes w a1 (n - k) (c - k) rest := by rw [HR.out]; exact Bytes.drop hr1
    clear hr1
    go_loop [4, 21] (UintRel rest) (fun _ i => (n - k) - (intOf i).toNat)
    case atStart => exact ⟨0, 0, rfl, rfl, by simp, by omega, by omega, rfl⟩
    case round =>
      obtain ⟨i, acc, rfl, rfl, hacc, hi, hir, hdec⟩ := hrel
      have HD := Lib.hid hdec
      clear hdec
      have hlr := HL.out
      have hir' : i ≤ n - k := by omega
      clear hlr hir
      by_cases h0 : i < n - k
      · obtain ⟨x, hx⟩ := hb1.get h0
        have HX := Lib.hid hx
        clear hx
        by_cases h9 : i ≤ 8
        · by_cases h128 : 128 ≤ x.toNat
          · go_wp2_with (with_reducible refine wpList_ixB rfl (.tmp 19) (.tmp 21) rfl Try.elB rfl hb1 i rfl rfl x HX.out ?_; intro p hp)
            have hs := step_or acc i x hacc (.inl h9)
            go_round
            case rel => exact ⟨i + 1, _, by rw [hs.1], by go_num, hs.2, by omega, by have := HL.out; omega, dec_step HX.out HD.out (by omega) h128⟩
            case measure => simp [intOf]; omega
          · by_cases hz : 1 ≤ x.toNat ∨ x.toNat ≤ 0 ∧ i ≤ 0
            · have hr := uintRes_ok HLk.out (HR.out ▸ dec_done HX.out HD.out (by omega) (by omega) (by omega))
              have hs := step_or acc i x hacc (.inl h9)
              have HR' := Lib.hid hr
              have HS := Lib.hid hs.1
              clear hr hs
              rcases hz with hz | ⟨hz, hz'⟩
              · go_wp2_with (with_reducible refine wpList_ixB rfl (.tmp 19) (.tmp 21) rfl Try.elB rfl hb1 i rfl rfl x HX.out ?_; intro p hp)
                go_ret3
                rw [HR'.out]
                exact ⟨uint_ret HS.out (by simp; omega) rfl, rfl⟩
              · obtain rfl : i = 0 := by omega
                have hx0 : x = 0 := UInt8.toNat_inj.1 (by simp; omega)
                subst hx0
                go_wp2_with (with_reducible refine wpList_ixB rfl (.tmp 19) (.tmp 21) rfl Try.elB rfl hb1 0 rfl rfl 0 HX.out ?_; intro p hp)
                go_ret3
                rw [HR'.out]
                exact ⟨uint_ret HS.out (by simp) rfl, rfl⟩
            · have hr := uintRes_no HLk.out (HR.out ▸ dec_zero HX.out HD.out (by omega)) (by decide)
              have HR' := Lib.hid hr
              clear hr
              have hz1 : x.toNat ≤ 0 := by omega
              have hz2 : 1 ≤ i := by omega
              clear hz
              go_wp2_with (with_reducible refine wpList_ixB rfl (.tmp 19) (.tmp 21) rfl Try.elB rfl hb1 i rfl rfl x HX.out ?_; intro p hp)
              go_ret3
              rw [HR'.out]
              exact ⟨rfl, rfl⟩
        · by_cases h1 : x.toNat ≤ 0 ∨ 2 ≤ x.toNat
          · have hr := uintRes_no HLk.out (HR.out ▸ dec_nine HX.out HD.out (by omega)) (by decide)
            have HR' := Lib.hid hr
            clear hr
            rcases h1 with h1 | h1
            all_goals
              go_wp2_with (with_reducible refine wpList_ixB rfl (.tmp 19) (.tmp 21) rfl Try.elB rfl hb1 i rfl rfl x HX.out ?_; intro p hp)
              go_ret3
              rw [HR'.out]
              exact ⟨rfl, rfl⟩
          · have h2 : x.toNat ≤ 1 := by omega
            have h3 : 1 ≤ x.toNat := by omega
            clear h1
            have hr := uintRes_ok HLk.out (HR.out ▸ dec_done HX.out HD.out (by omega) (by omega) (by omega))
            have hs := step_or acc i x hacc (.inr ⟨hi, h2⟩)
            have HR' := Lib.hid hr
            have HS := Lib.hid hs.1
            clear hr hs
            go_wp2_with (with_reducible refine wpList_ixB rfl (.tmp 19) (.tmp 21) rfl Try.elB rfl hb1 i rfl rfl x HX.out ?_; intro p hp)
            go_ret3
            rw [HR'.out]
            obtain rfl : i = 9 := by omega
            exact ⟨uint_ret HS.out (by simp; omega) rfl, rfl⟩
      · have hr := uintRes_no HLk.out (HR.out ▸ dec_short (by have := HL.out; omega) HD.out) (by decide)
        have HR' := Lib.hid hr
        clear hr
        go_wp2
        go_ret3
        rw [HR'.out]
        exact ⟨rfl, rfl⟩

theorem Uint_as (a : Option Addr) (n c : Nat) (l : List UInt8) (at_ : Int) (w : World) (hb : Bytes w a n c l) (hn : n ≤ 140737488355328) {v : Nat} {nx e : Int} (h : uintRes l at_ = (v, nx, e)) :
    Calls Try.prog 101 #[.slice a n c, .int .i64 at_] w (Ret (.tuple #[.int .u64 v, .int .i64 nx, .int .i64 e]) w) := by
  have := Uint_any a n c l at_ w hb hn
  rw [h] at this
  exact this

theorem u64_and_1 (u : Nat) (h : u ≤ 18446744073709551615) : bits BinOp.and IntKind.u64 (u : Int) 1 = ((u % 2 : Nat) : Int) := by
  have e := u64_and_nat u 1 (by omega) (by decide)
  have e2 : u &&& 1 = u % 2 := Nat.and_two_pow_sub_one_eq_mod u 1
  rw [e2] at e
  exact e

/-- What Int returns. -/
def intV (r : Int × Int × Int) : Value := .tuple #[.int .i64 r.1, .int .i64 r.2.1, .int .i64 r.2.2]

theorem unzig_even (v : Nat) (hv : v ≤ 18446744073709551615) (h : v % 2 = 0) : bits BinOp.xor IntKind.i64 ((v : Int) / 2) 0 = unzig v := by
  have e : bits BinOp.xor IntKind.i64 (((v / 2 : Nat)) : Int) 0 = ((v / 2 : Nat) : Int) := by
    show IntKind.i64.wrap ((BitVec.ofInt 64 ((v / 2 : Nat) : Int) ^^^ BitVec.ofInt 64 0).toNat : Int) = _
    have h1 : (BitVec.ofInt 64 0).toNat = 0 := by decide
    have h2 : (BitVec.ofInt 64 ((v / 2 : Nat) : Int)).toNat = v / 2 := by
      rw [BitVec.ofInt_natCast, BitVec.toNat_ofNat]; exact Nat.mod_eq_of_lt (by omega)
    rw [BitVec.toNat_xor, h1, h2, Nat.xor_zero, IntKind.wrap_i64]
    omega
  have e2 : (v : Int) / 2 = ((v / 2 : Nat) : Int) := by omega
  rw [e2, e, unzig, if_pos h]
theorem unzig_odd (v : Nat) (hv : v ≤ 18446744073709551615) (h : v % 2 = 1) : bits BinOp.xor IntKind.i64 ((v : Int) / 2) (-1) = unzig v := by
  have e : bits BinOp.xor IntKind.i64 (((v / 2 : Nat)) : Int) (-1) = -((v / 2 : Nat) : Int) - 1 := by
    show IntKind.i64.wrap ((BitVec.ofInt 64 ((v / 2 : Nat) : Int) ^^^ BitVec.ofInt 64 (-1)).toNat : Int) = _
    have h1 : (BitVec.ofInt 64 (-1)).toNat = 2 ^ 64 - 1 := by decide
    have h2 : (BitVec.ofInt 64 ((v / 2 : Nat) : Int)).toNat = v / 2 := by
      rw [BitVec.ofInt_natCast, BitVec.toNat_ofNat]; exact Nat.mod_eq_of_lt (by omega)
    rw [BitVec.toNat_xor, h1, h2, Nat.xor_comm, Lib.xor_ones64 _ (by omega), IntKind.wrap_i64]
    omega
  have e2 : (v : Int) / 2 = ((v / 2 : Nat) : Int) := by omega
  rw [e2, e, unzig, if_neg (by omega)]

theorem int_ret {A B C : Int} {r : Int × Int × Int} (h1 : A = r.1) (h2 : B = r.2.1) (h3 : C = r.2.2) : Ending.returned (.tuple #[.int .i64 A, .int .i64 B, .int .i64 C]) = .returned (intV r) := by
  subst h1 h2 h3; rfl

/-- What Text returns. -/
def textV (r : List UInt8 × Int × Int) : Value := .tuple #[.string ⟨r.1.toArray⟩, .int .i64 r.2.1, .int .i64 r.2.2]

/-- What Bool returns. -/
def boolV (r : Bool × Int × Int) : Value := .tuple #[.bool r.1, .int .i64 r.2.1, .int .i64 r.2.2]

theorem bool_ret {A : Bool} {B C : Int} {r : Bool × Int × Int} (h1 : A = r.1) (h2 : B = r.2.1) (h3 : C = r.2.2) : Ending.returned (.tuple #[.bool A, .int .i64 B, .int .i64 C]) = .returned (boolV r) := by
  subst h1 h2 h3; rfl

end Go.Proofs.Ytcljlglmnagodaa
