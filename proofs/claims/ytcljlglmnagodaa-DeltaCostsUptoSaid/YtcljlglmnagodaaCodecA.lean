/-
  Walks of layer 1: the functions that encode.
-/
import Derived.Test.YtcljlglmnagodaaBase
import Derived.Test.YtcljlglmnagodaaMathA
import Derived.Test.YtcljlglmnagodaaChecked
import Derived.Lib.Zigzag
namespace Go.Proofs.Ytcljlglmnagodaa
open Go.RowKit

theorem bits_and_127 (y : Nat) (h : y ≤ 18446744073709551615) : bits BinOp.and IntKind.u64 (y : Int) 127 = ((y % 128 : Nat) : Int) := by
  have e := u64_and_nat y 127 (by omega) (by decide)
  have e2 : y &&& 127 = y % 128 := Nat.and_two_pow_sub_one_eq_mod y 7
  rw [e2] at e
  exact e
theorem bits_or_128 (y : Int) (h : 0 ≤ y ∧ y < 128) : bits BinOp.or IntKind.u64 y 128 = y + 128 := by
  obtain ⟨k, rfl⟩ := Int.eq_ofNat_of_zero_le h.1
  have e := u64_or_nat k 128 (by omega) (by decide)
  have e2 : k ||| 128 = k + 128 := by
    have := Nat.two_pow_add_eq_or_of_lt (i := 7) (b := k) (by omega) 1
    rw [Nat.or_comm, Nat.add_comm]; simpa using this.symm
  rw [e2] at e
  exact e

/-- The loop of uintSize: k groups are counted, x is what is left. -/
def SizeRel (v : Nat) (x k : Value) : Prop := ∃ (y n : Nat), x = .int .u64 y ∧ k = .int .i64 n ∧ y ≤ 18446744073709551615 ∧ n ≤ 10 ∧ (enc v).length = n + (if y = 0 then 0 else (enc y).length)

set_option maxHeartbeats 400000 in
theorem uintSize_any (v : Nat) (hv : (v : Int) ≤ 18446744073709551615) (w : World) :
    Calls Try.prog 100 #[.int .u64 v] w fun e w' => e = .returned (.int .i64 (enc v).length) ∧ w = w' := by
  go_enter Try.func100, Try.ntmps100
  go_wp2
  go_loop [0, 3] (SizeRel v) (fun x _ => (intOf x).toNat)
  case atStart =>
    refine ⟨v / 128, 1, by simp, rfl, by omega, by omega, ?_⟩
    by_cases h : v / 128 = 0
    · rw [if_pos h, enc_len_lt (by omega)]
    · rw [if_neg h, enc_len_ge (by omega)]; omega
  case round =>
    obtain ⟨y, n, rfl, rfl, hy, hn, hl⟩ := hrel
    have H := Lib.hid hl; clear hl
    by_cases h0 : 0 < y
    · go_wp2
      go_round
      case rel =>
        have hl := H.out
        rw [if_neg (by omega)] at hl
        refine ⟨y / 128, n + 1, by go_num, by go_num, by omega, ?_, ?_⟩
        · have := enc_le10 (v := v) (by omega); have := enc_pos y; omega
        · by_cases h : y / 128 = 0
          · rw [if_pos h]; rw [enc_len_lt (v := y) (by omega)] at hl; omega
          · rw [if_neg h]; rw [enc_len_ge (v := y) (by omega)] at hl; omega
      case measure => simp [intOf]; omega
    · go_wp2
      go_ret
      have hl := H.out
      rw [if_pos (by omega)] at hl
      exact ⟨by rw [hl]; simp, rfl⟩

theorem Try.elB : Elem Try.prog 26 5 1 1 (.int .u8 0) := ⟨Try.underlying26, by kernel_rfl, rfl, by decide⟩

/-- extended: a copy of b with room for n further bytes. -/
theorem extended_any (a : Option Addr) (m c : Nat) (l : List UInt8) (k : Int) (w : World) (hb : Bytes w a m c l) (h0 : 0 ≤ k) (hn : m + k ≤ 140737488355328) :
    Calls Try.prog 99 #[.slice a m c, .int .i64 k] w fun e w' => ∃ g c', e = .returned (.slice (some ⟨g, 0, none⟩) m c') ∧
      w'.ownsRow w.heap.size 5 1 (.slice (some ⟨g, 0, none⟩) m c') m (l.map u8) ∧ Ext w w' := by
  obtain ⟨n, rfl⟩ := Int.eq_ofNat_of_zero_le h0
  go_enter Try.func99, Try.ntmps99
  go_wp2_with (first
    | (at_make; refine wpList_mk rfl _ _ rfl Try.elB m (m + n) rfl rfl rfl (by simp) (by omega) (by omega) (by unfold maxLen; omega) ?_; intro g w1 hown hx)
    | (with_reducible refine wpList_cp rfl (.tmp 13) (.tmp 14) rfl Try.elB rfl hown rfl (hb.ext hx).row (u8_oneCell l) (Nat.le_refl _) ?_; intro w2 hown2 hg2))
  go_ret
  refine ⟨g, m + n, rfl, ?_, hx.grown hg2 hx.size (fun k hk => by cases hk; exact (hown.lt g rfl).1)⟩
  have e1 : (zeros (.int .u8 0) m 1).drop m = [] := List.drop_eq_nil_of_le (by rw [zeros_length]; omega)
  rw [e1, List.append_nil] at hown2
  exact hown2

/-- The loop of appendUint. -/
def AppRel (B e : Nat) (w : World) (l : List UInt8) (v : Nat) (out x : Value) (wr : World) : Prop :=
  ∃ (a : Option Addr) (n c : Nat) (y : Nat) (p : List UInt8), out = .slice a n c ∧ x = .int .u64 y ∧ wr.ownsRow B e 1 (.slice a n c) n (p.map u8) ∧ Below B w wr ∧ y ≤ v ∧ p ++ enc y = l ++ enc v

set_option maxRecDepth 100000 in
set_option maxHeartbeats 400000 in
theorem appendUint_any (B : Nat) (a : Option Addr) (n c : Nat) (l : List UInt8) (v : Nat) (w : World) (hown : w.ownsRow B 5 1 (.slice a n c) n (l.map u8)) (hB : B ≤ w.heap.size)
    (hv : (v : Int) ≤ 18446744073709551615) (hn : n + 10 ≤ 140737488355328) :
    Calls Try.prog 98 #[.slice a n c, .int .u64 v] w fun e w' => ∃ a' m c', e = .returned (.slice a' m c') ∧
      w'.ownsRow B 5 1 (.slice a' m c') m ((l ++ enc v).map u8) ∧ Below B w w' := by
  go_enter Try.func98, Try.ntmps98
  go_wp2
  go_loopw [0, 1] (AppRel B 5 w l v) (fun _ x _ => (intOf x).toNat)
  case atStart => exact ⟨a, n, c, v, l, rfl, rfl, hown, Below.refl _ _, Nat.le_refl _, rfl⟩
  case round =>
    obtain ⟨a1, n1, c1, y, p, rfl, rfl, hown1, hx1, hy, hp⟩ := hrel
    have hn1 : n1 + 1 ≤ n + 10 := by
      have e1 := congrArg List.length hp
      have e2 := hown.1
      have e3 := hown1.1
      have := enc_pos y
      have := enc_le10 (v := v) (by omega)
      simp at e1 e2 e3
      omega
    have H := Lib.hid hp; clear hp hown
    have hz1 := hx1.size
    by_cases h0 : 128 ≤ y
    · have hb1 : bits BinOp.and IntKind.u64 (y : Int) 127 = ((y % 128 : Nat) : Int) := bits_and_127 y (by omega)
      have hb2 : bits BinOp.or IntKind.u64 ((y : Int) % 128) 128 = (y : Int) % 128 + 128 := bits_or_128 _ (by omega)
      go_wp2_with (at_builtin; go_loud (refine wpList_app rfl _ _ rfl Try.elB rfl (hown1.alloc _) rfl (Row.one _ _ _) (by intro u hu; simp at hu; subst hu; rfl) (by omega) (by unfold maxLen; omega) (by simp; omega) ?_); intro a2 c2 w2 hown2 hg2)
      go_roundw
      case rel =>
        refine ⟨a2, n1 + 1, c2, y / 128, p ++ [UInt8.ofNat (y % 128 + 128)], rfl, by go_num, ?_, below_app (hx1.alloc (by omega) _) (hown1.alloc _) hg2 (by simp; omega), by omega, ?_⟩
        · rw [List.map_append, List.map_cons, List.map_nil, u8_ofNat _ (by omega)]
          have e : (((y % 128 + 128 : Nat) : Int)) = (y : Int) % 128 + 128 := by omega
          rw [e]; exact hown2
        · have hp := H.out
          rw [enc_ge h0] at hp
          rw [List.append_assoc]; exact hp
      case measure => simp [intOf]; omega
    · go_wp2_with (at_builtin; go_loud (refine wpList_app rfl _ _ rfl Try.elB rfl (hown1.alloc _) rfl (Row.one _ _ _) (by intro u hu; simp at hu; subst hu; rfl) (by omega) (by unfold maxLen; omega) (by simp; omega) ?_); intro a2 c2 w2 hown2 hg2)
      go_ret
      refine ⟨a2, n1 + 1, c2, rfl, ?_, below_app (hx1.alloc (by omega) _) (hown1.alloc _) hg2 (by simp; omega)⟩
      have hp := H.out
      rw [enc_lt (v := y) (by omega)] at hp
      rw [← hp, List.map_append, List.map_cons, List.map_nil, u8_ofNat _ (by omega)]
      exact hown2

/-- A result in new memory that reads as the bytes l. -/
def NewBytes (w : World) (l : List UInt8) (e : Ending) (w' : World) : Prop :=
  ∃ a n c, e = .returned (.slice a n c) ∧ w'.ownsRow w.heap.size 5 1 (.slice a n c) n (l.map u8) ∧ Ext w w'

theorem PutUint_any (a : Option Addr) (m c : Nat) (l : List UInt8) (v : Nat) (w : World) (hb : Bytes w a m c l) (hv : (v : Int) ≤ 18446744073709551615) (hm : m ≤ 140737488355300) :
    Calls Try.prog 83 #[.slice a m c, .int .u64 v] w (NewBytes w (l ++ enc v)) := by
  have h10 := enc_le10 (v := v) (by omega)
  go_enter Try.func83, Try.ntmps83
  go_wp2_with (first
    | (go_at_call 100; refine (uintSize_any v hv _).mono ?_; rintro e w1 ⟨rfl, rfl⟩)
    | (go_at_call 99; refine (extended_any a m c l _ _ hb (by omega) (by omega)).mono ?_; rintro e w1 ⟨g, c1, rfl, hown1, hx1⟩)
    | (go_at_call 98; refine (appendUint_any w.heap.size _ m c1 l v _ hown1 hx1.size hv (by omega)).mono ?_; rintro e w2 ⟨a2, m2, c2, rfl, hown2, hx2⟩))
  go_ret
  exact ⟨a2, m2, c2, rfl, hown2, hx1.trans hx2⟩

/-- The Uint as which an int is encoded: P1.2. -/
theorem zig_nonneg (n : Int) (h0 : 0 ≤ n) (h1 : n ≤ 9223372036854775807) : bits BinOp.xor IntKind.u64 (n * 2) (n / 9223372036854775808) = (Lib.zigzag n : Int) := by
  obtain ⟨k, rfl⟩ := Int.eq_ofNat_of_zero_le h0
  have e := bits_xor_u64_nat (k * 2) 0 (by omega) (by decide)
  rw [Nat.xor_zero] at e
  rw [Lib.zigzag_nonneg h0]
  have e0 : (k : Int) / 9223372036854775808 = 0 := by omega
  rw [e0]
  simpa using e
theorem zig_neg (n : Int) (h0 : -9223372036854775808 ≤ n) (h1 : n < 0) : bits BinOp.xor IntKind.u64 (IntKind.u64.wrap (IntKind.u64.wrap n * 2)) (IntKind.u64.wrap (n / 9223372036854775808)) = (Lib.zigzag n : Int) := by
  have e := bits_xor_u64_nat (2 * n + 18446744073709551616).toNat (2 ^ 64 - 1) (by omega) (by decide)
  rw [Nat.xor_comm, Lib.xor_ones64 _ (by omega)] at e
  have e1 : ((2 * n + 18446744073709551616).toNat : Int) = IntKind.u64.wrap (IntKind.u64.wrap n * 2) := by rw [IntKind.wrap_u64, IntKind.wrap_u64]; omega
  rw [e1] at e
  have e2 : ((2 ^ 64 - 1 : Nat) : Int) = IntKind.u64.wrap (n / 9223372036854775808) := by rw [IntKind.wrap_u64]; omega
  rw [e2] at e
  rw [e]
  unfold Lib.zigzag
  rw [if_neg (by omega)]
  omega

end Go.Proofs.Ytcljlglmnagodaa
