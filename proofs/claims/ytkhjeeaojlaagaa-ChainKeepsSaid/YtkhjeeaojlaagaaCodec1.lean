/-
  Several texts in one: CodecA, RefA, CodecB, RefB.
-/
import Derived.Test.YtkhjeeaojlaagaaBase
import Derived.Test.YtkhjeeaojlaagaaMath1
import Derived.Test.YtkhjeeaojlaagaaChecked
import Derived.Lib.Zigzag
/-
  Walks of layer 1: the functions that encode.
-/
namespace Go.Proofs.Ytkhjeeaojlaagaa
open Go.RowKit

theorem bits_and_127 (y : Nat) (h : y ≤ 18446744073709551615) : bits BinOp.and IntKind.u64 (y : Int) 127 = ((y % 128 : Nat) : Int) := by
  have e := u64_and_nat y 127 (by omega) (by decide)
  have e2 : y &&& 127 = y % 128 := Nat.and_two_pow_sub_one_eq_mod y 7
  rw [e2] at e
  exact e
theorem bits_or_128 (y : Int) (h : 0 ≤ y ∧ y < 128) : bits BinOp.or IntKind.u64 y 128 = y + 128 := by
  obtain ⟨k, rfl⟩ := Int.eq_ofNat_of_zero_le h.1
  have e := u64_or_nat k 128 (by omega) (by decide)
  have e2 : k ||| 128 = k + 128 := by
    have := Nat.two_pow_add_eq_or_of_lt (i := 7) (b := k) (by omega) 1
    rw [Nat.or_comm, Nat.add_comm]; simpa using this.symm
  rw [e2] at e
  exact e

/-- The loop of uintSize: k groups are counted, x is what is left. -/
def SizeRel (v : Nat) (x k : Value) : Prop := ∃ (y n : Nat), x = .int .u64 y ∧ k = .int .i64 n ∧ y ≤ 18446744073709551615 ∧ n ≤ 10 ∧ (enc v).length = n + (if y = 0 then 0 else (enc y).length)

set_option maxHeartbeats 400000 in
theorem uintSize_any (v : Nat) (hv : (v : Int) ≤ 18446744073709551615) (w : World) :
    Calls Try.prog 60 #[.int .u64 v] w fun e w' => e = .returned (.int .i64 (enc v).length) ∧ w = w' := by
  go_enter Try.func60, Try.ntmps60
  go_wp2
  go_loop [0, 3] (SizeRel v) (fun x _ => (intOf x).toNat)
  case atStart =>
    refine ⟨v / 128, 1, by simp, rfl, by omega, by omega, ?_⟩
    by_cases h : v / 128 = 0
    · rw [if_pos h, enc_len_lt (by omega)]
    · rw [if_neg h, enc_len_ge (by omega)]; omega
  case round =>
    obtain ⟨y, n, rfl, rfl, hy, hn, hl⟩ := hrel
    have H := Lib.hid hl; clear hl
    by_cases h0 : 0 < y
    · go_wp2
      go_round
      case rel =>
        have hl := H.out
        rw [if_neg (by omega)] at hl
        refine ⟨y / 128, n + 1, by go_num, by go_num, by omega, ?_, ?_⟩
        · have := enc_le10 (v := v) (by omega); have := enc_pos y; omega
        · by_cases h : y / 128 = 0
          · rw [if_pos h]; rw [enc_len_lt (v := y) (by omega)] at hl; omega
          · rw [if_neg h]; rw [enc_len_ge (v := y) (by omega)] at hl; omega
      case measure => simp [intOf]; omega
    · go_wp2
      go_ret
      have hl := H.out
      rw [if_pos (by omega)] at hl
      exact ⟨by rw [hl]; simp, rfl⟩

theorem Try.elB : Elem Try.prog 28 5 1 1 (.int .u8 0) := ⟨Try.underlying28, by kernel_rfl, rfl, by decide⟩

/-- extended: a copy of b with room for n further bytes. -/
theorem extended_any (a : Option Addr) (m c : Nat) (l : List UInt8) (k : Int) (w : World) (hb : Bytes w a m c l) (h0 : 0 ≤ k) (hn : m + k ≤ 140737488355328) :
    Calls Try.prog 59 #[.slice a m c, .int .i64 k] w fun e w' => ∃ g c', e = .returned (.slice (some ⟨g, 0, none⟩) m c') ∧
      w'.ownsRow w.heap.size 5 1 (.slice (some ⟨g, 0, none⟩) m c') m (l.map u8) ∧ Ext w w' := by
  obtain ⟨n, rfl⟩ := Int.eq_ofNat_of_zero_le h0
  go_enter Try.func59, Try.ntmps59
  go_wp2_with (first
    | (at_make; refine wpList_mk rfl _ _ rfl Try.elB m (m + n) rfl rfl rfl (by simp) (by omega) (by omega) (by unfold maxLen; omega) ?_; intro g w1 hown hx)
    | (with_reducible refine wpList_cp rfl (.tmp 13) (.tmp 14) rfl Try.elB rfl hown rfl (hb.ext hx).row (u8_oneCell l) (Nat.le_refl _) ?_; intro w2 hown2 hg2))
  go_ret
  refine ⟨g, m + n, rfl, ?_, hx.grown hg2 hx.size (fun k hk => by cases hk; exact (hown.lt g rfl).1)⟩
  have e1 : (zeros (.int .u8 0) m 1).drop m = [] := List.drop_eq_nil_of_le (by rw [zeros_length]; omega)
  rw [e1, List.append_nil] at hown2
  exact hown2

/-- The loop of appendUint. -/
def AppRel (B e : Nat) (w : World) (l : List UInt8) (v : Nat) (out x : Value) (wr : World) : Prop :=
  ∃ (a : Option Addr) (n c : Nat) (y : Nat) (p : List UInt8), out = .slice a n c ∧ x = .int .u64 y ∧ wr.ownsRow B e 1 (.slice a n c) n (p.map u8) ∧ Below B w wr ∧ y ≤ v ∧ p ++ enc y = l ++ enc v

set_option maxRecDepth 100000 in
set_option maxHeartbeats 400000 in
theorem appendUint_any (B : Nat) (a : Option Addr) (n c : Nat) (l : List UInt8) (v : Nat) (w : World) (hown : w.ownsRow B 5 1 (.slice a n c) n (l.map u8)) (hB : B ≤ w.heap.size)
    (hv : (v : Int) ≤ 18446744073709551615) (hn : n + 10 ≤ 140737488355328) :
    Calls Try.prog 58 #[.slice a n c, .int .u64 v] w fun e w' => ∃ a' m c', e = .returned (.slice a' m c') ∧
      w'.ownsRow B 5 1 (.slice a' m c') m ((l ++ enc v).map u8) ∧ Below B w w' := by
  go_enter Try.func58, Try.ntmps58
  go_wp2
  go_loopw [0, 1] (AppRel B 5 w l v) (fun _ x _ => (intOf x).toNat)
  case atStart => exact ⟨a, n, c, v, l, rfl, rfl, hown, Below.refl _ _, Nat.le_refl _, rfl⟩
  case round =>
    obtain ⟨a1, n1, c1, y, p, rfl, rfl, hown1, hx1, hy, hp⟩ := hrel
    have hn1 : n1 + 1 ≤ n + 10 := by
      have e1 := congrArg List.length hp
      have e2 := hown.1
      have e3 := hown1.1
      have := enc_pos y
      have := enc_le10 (v := v) (by omega)
      simp at e1 e2 e3
      omega
    have H := Lib.hid hp; clear hp hown
    have hz1 := hx1.size
    by_cases h0 : 128 ≤ y
    · have hb1 : bits BinOp.and IntKind.u64 (y : Int) 127 = ((y % 128 : Nat) : Int) := bits_and_127 y (by omega)
      have hb2 : bits BinOp.or IntKind.u64 ((y : Int) % 128) 128 = (y : Int) % 128 + 128 := bits_or_128 _ (by omega)
      go_wp2_with (at_builtin; go_loud (refine wpList_app rfl _ _ rfl Try.elB rfl (hown1.alloc _) rfl (Row.one _ _ _) (by intro u hu; simp at hu; subst hu; rfl) (by omega) (by unfold maxLen; omega) (by simp; omega) ?_); intro a2 c2 w2 hown2 hg2)
      go_roundw
      case rel =>
        refine ⟨a2, n1 + 1, c2, y / 128, p ++ [UInt8.ofNat (y % 128 + 128)], rfl, by go_num, ?_, below_app (hx1.alloc (by omega) _) (hown1.alloc _) hg2 (by simp; omega), by omega, ?_⟩
        · rw [List.map_append, List.map_cons, List.map_nil, u8_ofNat _ (by omega)]
          have e : (((y % 128 + 128 : Nat) : Int)) = (y : Int) % 128 + 128 := by omega
          rw [e]; exact hown2
        · have hp := H.out
          rw [enc_ge h0] at hp
          rw [List.append_assoc]; exact hp
      case measure => simp [intOf]; omega
    · go_wp2_with (at_builtin; go_loud (refine wpList_app rfl _ _ rfl Try.elB rfl (hown1.alloc _) rfl (Row.one _ _ _) (by intro u hu; simp at hu; subst hu; rfl) (by omega) (by unfold maxLen; omega) (by simp; omega) ?_); intro a2 c2 w2 hown2 hg2)
      go_ret
      refine ⟨a2, n1 + 1, c2, rfl, ?_, below_app (hx1.alloc (by omega) _) (hown1.alloc _) hg2 (by simp; omega)⟩
      have hp := H.out
      rw [enc_lt (v := y) (by omega)] at hp
      rw [← hp, List.map_append, List.map_cons, List.map_nil, u8_ofNat _ (by omega)]
      exact hown2

/-- A result in new memory that reads as the bytes l. -/
def NewBytes (w : World) (l : List UInt8) (e : Ending) (w' : World) : Prop :=
  ∃ a n c, e = .returned (.slice a n c) ∧ w'.ownsRow w.heap.size 5 1 (.slice a n c) n (l.map u8) ∧ Ext w w'

theorem PutUint_any (a : Option Addr) (m c : Nat) (l : List UInt8) (v : Nat) (w : World) (hb : Bytes w a m c l) (hv : (v : Int) ≤ 18446744073709551615) (hm : m ≤ 140737488355300) :
    Calls Try.prog 46 #[.slice a m c, .int .u64 v] w (NewBytes w (l ++ enc v)) := by
  have h10 := enc_le10 (v := v) (by omega)
  go_enter Try.func46, Try.ntmps46
  go_wp2_with (first
    | (go_at_call 60; refine (uintSize_any v hv _).mono ?_; rintro e w1 ⟨rfl, rfl⟩)
    | (go_at_call 59; refine (extended_any a m c l _ _ hb (by omega) (by omega)).mono ?_; rintro e w1 ⟨g, c1, rfl, hown1, hx1⟩)
    | (go_at_call 58; refine (appendUint_any w.heap.size _ m c1 l v _ hown1 hx1.size hv (by omega)).mono ?_; rintro e w2 ⟨a2, m2, c2, rfl, hown2, hx2⟩))
  go_ret
  exact ⟨a2, m2, c2, rfl, hown2, hx1.trans hx2⟩

/-- The Uint as which an int is encoded: P1.2. -/
theorem zig_nonneg (n : Int) (h0 : 0 ≤ n) (h1 : n ≤ 9223372036854775807) : bits BinOp.xor IntKind.u64 (n * 2) (n / 9223372036854775808) = (Lib.zigzag n : Int) := by
  obtain ⟨k, rfl⟩ := Int.eq_ofNat_of_zero_le h0
  have e := bits_xor_u64_nat (k * 2) 0 (by omega) (by decide)
  rw [Nat.xor_zero] at e
  rw [Lib.zigzag_nonneg h0]
  have e0 : (k : Int) / 9223372036854775808 = 0 := by omega
  rw [e0]
  simpa using e
theorem zig_neg (n : Int) (h0 : -9223372036854775808 ≤ n) (h1 : n < 0) : bits BinOp.xor IntKind.u64 (IntKind.u64.wrap (IntKind.u64.wrap n * 2)) (IntKind.u64.wrap (n / 9223372036854775808)) = (Lib.zigzag n : Int) := by
  have e := bits_xor_u64_nat (2 * n + 18446744073709551616).toNat (2 ^ 64 - 1) (by omega) (by decide)
  rw [Nat.xor_comm, Lib.xor_ones64 _ (by omega)] at e
  have e1 : ((2 * n + 18446744073709551616).toNat : Int) = IntKind.u64.wrap (IntKind.u64.wrap n * 2) := by rw [IntKind.wrap_u64, IntKind.wrap_u64]; omega
  rw [e1] at e
  have e2 : ((2 ^ 64 - 1 : Nat) : Int) = IntKind.u64.wrap (n / 9223372036854775808) := by rw [IntKind.wrap_u64]; omega
  rw [e2] at e
  rw [e]
  unfold Lib.zigzag
  rw [if_neg (by omega)]
  omega

end Go.Proofs.Ytkhjeeaojlaagaa
/-
  Walks of layer 1's reference: the functions that encode.
-/
namespace Go.Proofs.Ytkhjeeaojlaagaa
open Go.RowKit

theorem rem128 (v : Nat) : ((v % 128 + 128 : Nat) : Int) = (v : Int) % 128 + 128 := by omega

set_option maxRecDepth 100000 in
theorem refUint_any (v : Nat) : ∀ (w : World), (v : Int) ≤ 18446744073709551615 →
    Calls Try.prog 63 #[.int .u64 v] w (NewBytes w (enc v)) := by
  induction v using Nat.strongRecOn with
  | _ v ih =>
  intro w hv
  have IH := Lib.hid ih; clear ih
  by_cases h : v < 128
  · go_enter Try.func63, Try.ntmps63
    go_wp2
    go_ret
    refine ⟨_, 1, 1, rfl, ?_, (Below.refl _ _).alloc (Nat.le_refl _) _⟩
    rw [enc_lt h, List.map_cons, List.map_nil, u8_ofNat _ (by omega)]
    exact own_lit w _ _ _ 1 1 (Nat.le_refl _) (by decide) rfl
  · go_enter Try.func63, Try.ntmps63
    go_wp2_with (first
      | (go_at_call 63; go_loud (refine (IH.out (v / 128) (by omega) _ (by omega)).mono ?_); rintro e w1 ⟨a1, n1, c1, rfl, hown1, hx1⟩)
      | (at_builtin; go_loud (refine wpList_app rfl _ _ rfl Try.elB rfl (own_ext (own_lit w _ w.heap.size 5 1 1 (Nat.le_refl _) (by decide) rfl) hx1) rfl (Row.of_own hown1) (u8_oneCell _) (by have := own_len hown1; have := enc_le10 (v := v / 128) (by omega); omega) (by have := own_len hown1; have := enc_le10 (v := v / 128) (by omega); unfold maxLen; omega) (by have := hx1.size; simp at this; omega) ?_); intro a2 c2 w2 hown2 hg2))
    go_ret
    have hz := hx1.size
    simp at hz
    refine ⟨a2, 1 + n1, c2, rfl, ?_, below_app (((Below.refl _ _).alloc (Nat.le_refl _) _).trans (hx1.mono (by simp))) (own_ext (own_lit w _ w.heap.size 5 1 1 (Nat.le_refl _) (by decide) rfl) hx1) hg2 (by omega)⟩
    rw [enc_ge (by omega), List.map_cons, u8_ofNat _ (by omega), rem128]
    exact hown2

end Go.Proofs.Ytkhjeeaojlaagaa
/-
  Walks of layer 1: the functions that decode.
-/
namespace Go.Proofs.Ytkhjeeaojlaagaa
open Go.RowKit

/-- What Uint returns. -/
def uintV (r : Nat × Int × Int) : Value := .tuple #[.int .u64 r.1, .int .i64 r.2.1, .int .i64 r.2.2]

theorem uint_ret {A B C : Int} {r : Nat × Int × Int} (h1 : A = r.1) (h2 : B = r.2.1) (h3 : C = r.2.2) : Ending.returned (.tuple #[.int .u64 A, .int .i64 B, .int .i64 C]) = .returned (uintV r) := by
  subst h1 h2 h3; rfl

theorem and_127 (x : UInt8) : bits BinOp.and IntKind.u8 (x.toNat : Int) 127 = ((x.toNat % 128 : Nat) : Int) := by
  have e := u8_and_nat x.toNat 127 x.toNat_lt (by decide)
  have e2 : x.toNat &&& 127 = x.toNat % 128 := Nat.and_two_pow_sub_one_eq_mod x.toNat 7
  rw [e2] at e
  exact e

theorem pow_two_seven (i : Nat) : 2 ^ (7 * i) = 128 ^ i := by rw [Nat.pow_mul]

/-- The group that is laid in: an addition. -/
theorem step_or (acc i : Nat) (x : UInt8) (hacc : acc < 128 ^ i) (hi : i ≤ 8 ∨ i ≤ 9 ∧ x.toNat ≤ 1) :
    bits BinOp.or IntKind.u64 (acc : Int) (IntKind.u64.wrap (IntKind.u64.wrap (bits BinOp.and IntKind.u8 (x.toNat : Int) 127) * 2 ^ (7 * i))) = ((acc + x.toNat % 128 * 128 ^ i : Nat) : Int) ∧
      acc + x.toNat % 128 * 128 ^ i < 128 ^ (i + 1) := by
  have hmul : x.toNat % 128 * 128 ^ i + 128 ^ i ≤ 128 ^ (i + 1) := by
    have h : (x.toNat % 128 + 1) * 128 ^ i ≤ 128 * 128 ^ i := Nat.mul_le_mul_right _ (by omega)
    rw [Nat.add_mul, Nat.one_mul] at h
    rw [Nat.pow_succ]; omega
  have hsum : acc + x.toNat % 128 * 128 ^ i < 2 ^ 64 := by
    rcases hi with hi | ⟨hi, hx⟩
    · have h1 : 128 ^ (i + 1) ≤ 128 ^ 9 := Nat.pow_le_pow_right (by decide) (by omega)
      have h2 : (128 : Nat) ^ 9 = 2 ^ 63 := by decide
      omega
    · have h1 : 128 ^ i ≤ 128 ^ 9 := Nat.pow_le_pow_right (by decide) hi
      have h2 : (128 : Nat) ^ 9 = 2 ^ 63 := by decide
      have h3 : x.toNat % 128 * 128 ^ i ≤ 1 * 128 ^ i := Nat.mul_le_mul_right _ (by omega)
      omega
  refine ⟨?_, by omega⟩
  rw [and_127, IntKind.wrap_u64, IntKind.wrap_u64]
  have e1 : ((x.toNat % 128 : Nat) : Int) % 18446744073709551616 = ((x.toNat % 128 : Nat) : Int) := by omega
  have e2 : ((x.toNat % 128 : Nat) : Int) * 2 ^ (7 * i) = ((x.toNat % 128 * 128 ^ i : Nat) : Int) := by
    rw [Int.natCast_mul, ← pow_two_seven]; simp
  rw [e1, e2]
  have e3 : ((x.toNat % 128 * 128 ^ i : Nat) : Int) % 18446744073709551616 = ((x.toNat % 128 * 128 ^ i : Nat) : Int) := by omega
  rw [e3, u64_or_nat _ _ (by omega) (by omega)]
  congr 1
  rw [← pow_two_seven] at hacc ⊢
  have := Nat.two_pow_add_eq_or_of_lt hacc (x.toNat % 128)
  rw [Nat.or_comm, Nat.mul_comm, ← this, Nat.add_comm]

def UintRel (rest : List UInt8) (v i : Value) : Prop := ∃ (k acc : Nat), v = .int .u64 acc ∧ i = .int .i64 k ∧ acc < 128 ^ k ∧ k ≤ 9 ∧ k ≤ rest.length ∧ decF k acc (rest.drop k) = decU rest

set_option maxRecDepth 100000 in
set_option maxHeartbeats 1000000 in
theorem Uint_any (a : Option Addr) (n c : Nat) (l : List UInt8) (at_ : Int) (w : World) (hb : Bytes w a n c l) (hn : n ≤ 140737488355328) :
    Calls Try.prog 68 #[.slice a n c, .int .i64 at_] w (Ret (uintV (uintRes l at_)) w) := by
  have hl := hb.len
  by_cases hp : at_ < 0 ∨ (n : Int) < at_
  · have hr : uintRes l at_ = (0, 0, 10) := uintRes_out (by omega)
    rw [hr]
    clear hr hl
    rcases hp with hp | hp
    all_goals
      go_enter Try.func68, Try.ntmps68
      go_wp2
      go_ret3
      exact ⟨rfl, rfl⟩
  · obtain ⟨k, rfl⟩ := Int.eq_ofNat_of_zero_le (show 0 ≤ at_ by omega)
    have hk : k ≤ n := by omega
    obtain ⟨rest, hrest⟩ : ∃ rest, rest = l.drop k := ⟨_, rfl⟩
    have hlen : rest.length = n - k := by rw [hrest, List.length_drop, hl]
    have HLk : Hid (k ≤ l.length) := show k ≤ l.length by omega
    have HL := Lib.hid hlen
    have HR := Lib.hid hrest
    clear hl hlen hrest hp
    go_enter Try.func68, Try.ntmps68
    go_wp2_with (with_reducible refine wpList_sl_lo rfl (.tmp 17) (.tmp 18) rfl Try.elB rfl hb.row k rfl rfl hk ?_; intro a1 hr1)
    have hb1 : Bytes w a1 (n - k) (c - k) rest := by rw [HR.out]; exact Bytes.drop hr1
    clear hr1
    go_loop [4, 21] (UintRel rest) (fun _ i => (n - k) - (intOf i).toNat)
    case atStart => exact ⟨0, 0, rfl, rfl, by simp, by omega, by omega, rfl⟩
    case round =>
      obtain ⟨i, acc, rfl, rfl, hacc, hi, hir, hdec⟩ := hrel
      have HD := Lib.hid hdec
      clear hdec
      have hlr := HL.out
      have hir' : i ≤ n - k := by omega
      clear hlr hir
      by_cases h0 : i < n - k
      · obtain ⟨x, hx⟩ := hb1.get h0
        have HX := Lib.hid hx
        clear hx
        by_cases h9 : i ≤ 8
        · by_cases h128 : 128 ≤ x.toNat
          · go_wp2_with (with_reducible refine wpList_ixB rfl (.tmp 19) (.tmp 21) rfl Try.elB rfl hb1 i rfl rfl x HX.out ?_; intro p hp)
            have hs := step_or acc i x hacc (.inl h9)
            go_round
            case rel => exact ⟨i + 1, _, by rw [hs.1], by go_num, hs.2, by omega, by have := HL.out; omega, dec_step HX.out HD.out (by omega) h128⟩
            case measure => simp [intOf]; omega
          · by_cases hz : 1 ≤ x.toNat ∨ x.toNat ≤ 0 ∧ i ≤ 0
            · have hr := uintRes_ok HLk.out (HR.out ▸ dec_done HX.out HD.out (by omega) (by omega) (by omega))
              have hs := step_or acc i x hacc (.inl h9)
              have HR' := Lib.hid hr
              have HS := Lib.hid hs.1
              clear hr hs
              rcases hz with hz | ⟨hz, hz'⟩
              · go_wp2_with (with_reducible refine wpList_ixB rfl (.tmp 19) (.tmp 21) rfl Try.elB rfl hb1 i rfl rfl x HX.out ?_; intro p hp)
                go_ret3
                rw [HR'.out]
                exact ⟨uint_ret HS.out (by simp; omega) rfl, rfl⟩
              · obtain rfl : i = 0 := by omega
                have hx0 : x = 0 := UInt8.toNat_inj.1 (by simp; omega)
                subst hx0
                go_wp2_with (with_reducible refine wpList_ixB rfl (.tmp 19) (.tmp 21) rfl Try.elB rfl hb1 0 rfl rfl 0 HX.out ?_; intro p hp)
                go_ret3
                rw [HR'.out]
                exact ⟨uint_ret HS.out (by simp) rfl, rfl⟩
            · have hr := uintRes_no HLk.out (HR.out ▸ dec_zero HX.out HD.out (by omega)) (by decide)
              have HR' := Lib.hid hr
              clear hr
              have hz1 : x.toNat ≤ 0 := by omega
              have hz2 : 1 ≤ i := by omega
              clear hz
              go_wp2_with (with_reducible refine wpList_ixB rfl (.tmp 19) (.tmp 21) rfl Try.elB rfl hb1 i rfl rfl x HX.out ?_; intro p hp)
              go_ret3
              rw [HR'.out]
              exact ⟨rfl, rfl⟩
        · by_cases h1 : x.toNat ≤ 0 ∨ 2 ≤ x.toNat
          · have hr := uintRes_no HLk.out (HR.out ▸ dec_nine HX.out HD.out (by omega)) (by decide)
            have HR' := Lib.hid hr
            clear hr
            rcases h1 with h1 | h1
            all_goals
              go_wp2_with (with_reducible refine wpList_ixB rfl (.tmp 19) (.tmp 21) rfl Try.elB rfl hb1 i rfl rfl x HX.out ?_; intro p hp)
              go_ret3
              rw [HR'.out]
              exact ⟨rfl, rfl⟩
          · have h2 : x.toNat ≤ 1 := by omega
            have h3 : 1 ≤ x.toNat := by omega
            clear h1
            have hr := uintRes_ok HLk.out (HR.out ▸ dec_done HX.out HD.out (by omega) (by omega) (by omega))
            have hs := step_or acc i x hacc (.inr ⟨hi, h2⟩)
            have HR' := Lib.hid hr
            have HS := Lib.hid hs.1
            clear hr hs
            go_wp2_with (with_reducible refine wpList_ixB rfl (.tmp 19) (.tmp 21) rfl Try.elB rfl hb1 i rfl rfl x HX.out ?_; intro p hp)
            go_ret3
            rw [HR'.out]
            obtain rfl : i = 9 := by omega
            exact ⟨uint_ret HS.out (by simp; omega) rfl, rfl⟩
      · have hr := uintRes_no HLk.out (HR.out ▸ dec_short (by have := HL.out; omega) HD.out) (by decide)
        have HR' := Lib.hid hr
        clear hr
        go_wp2
        go_ret3
        rw [HR'.out]
        exact ⟨rfl, rfl⟩

theorem Uint_as (a : Option Addr) (n c : Nat) (l : List UInt8) (at_ : Int) (w : World) (hb : Bytes w a n c l) (hn : n ≤ 140737488355328) {v : Nat} {nx e : Int} (h : uintRes l at_ = (v, nx, e)) :
    Calls Try.prog 68 #[.slice a n c, .int .i64 at_] w (Ret (.tuple #[.int .u64 v, .int .i64 nx, .int .i64 e]) w) := by
  have := Uint_any a n c l at_ w hb hn
  rw [h] at this
  exact this

theorem u64_and_1 (u : Nat) (h : u ≤ 18446744073709551615) : bits BinOp.and IntKind.u64 (u : Int) 1 = ((u % 2 : Nat) : Int) := by
  have e := u64_and_nat u 1 (by omega) (by decide)
  have e2 : u &&& 1 = u % 2 := Nat.and_two_pow_sub_one_eq_mod u 1
  rw [e2] at e
  exact e

/-- What Int returns. -/
def intV (r : Int × Int × Int) : Value := .tuple #[.int .i64 r.1, .int .i64 r.2.1, .int .i64 r.2.2]

theorem unzig_even (v : Nat) (hv : v ≤ 18446744073709551615) (h : v % 2 = 0) : bits BinOp.xor IntKind.i64 ((v : Int) / 2) 0 = unzig v := by
  have e : bits BinOp.xor IntKind.i64 (((v / 2 : Nat)) : Int) 0 = ((v / 2 : Nat) : Int) := by
    show IntKind.i64.wrap ((BitVec.ofInt 64 ((v / 2 : Nat) : Int) ^^^ BitVec.ofInt 64 0).toNat : Int) = _
    have h1 : (BitVec.ofInt 64 0).toNat = 0 := by decide
    have h2 : (BitVec.ofInt 64 ((v / 2 : Nat) : Int)).toNat = v / 2 := by
      rw [BitVec.ofInt_natCast, BitVec.toNat_ofNat]; exact Nat.mod_eq_of_lt (by omega)
    rw [BitVec.toNat_xor, h1, h2, Nat.xor_zero, IntKind.wrap_i64]
    omega
  have e2 : (v : Int) / 2 = ((v / 2 : Nat) : Int) := by omega
  rw [e2, e, unzig, if_pos h]
theorem unzig_odd (v : Nat) (hv : v ≤ 18446744073709551615) (h : v % 2 = 1) : bits BinOp.xor IntKind.i64 ((v : Int) / 2) (-1) = unzig v := by
  have e : bits BinOp.xor IntKind.i64 (((v / 2 : Nat)) : Int) (-1) = -((v / 2 : Nat) : Int) - 1 := by
    show IntKind.i64.wrap ((BitVec.ofInt 64 ((v / 2 : Nat) : Int) ^^^ BitVec.ofInt 64 (-1)).toNat : Int) = _
    have h1 : (BitVec.ofInt 64 (-1)).toNat = 2 ^ 64 - 1 := by decide
    have h2 : (BitVec.ofInt 64 ((v / 2 : Nat) : Int)).toNat = v / 2 := by
      rw [BitVec.ofInt_natCast, BitVec.toNat_ofNat]; exact Nat.mod_eq_of_lt (by omega)
    rw [BitVec.toNat_xor, h1, h2, Nat.xor_comm, Lib.xor_ones64 _ (by omega), IntKind.wrap_i64]
    omega
  have e2 : (v : Int) / 2 = ((v / 2 : Nat) : Int) := by omega
  rw [e2, e, unzig, if_neg (by omega)]

theorem int_ret {A B C : Int} {r : Int × Int × Int} (h1 : A = r.1) (h2 : B = r.2.1) (h3 : C = r.2.2) : Ending.returned (.tuple #[.int .i64 A, .int .i64 B, .int .i64 C]) = .returned (intV r) := by
  subst h1 h2 h3; rfl

/-- What Text returns. -/
def textV (r : List UInt8 × Int × Int) : Value := .tuple #[.string ⟨r.1.toArray⟩, .int .i64 r.2.1, .int .i64 r.2.2]

/-- What Bool returns. -/
def boolV (r : Bool × Int × Int) : Value := .tuple #[.bool r.1, .int .i64 r.2.1, .int .i64 r.2.2]

theorem bool_ret {A : Bool} {B C : Int} {r : Bool × Int × Int} (h1 : A = r.1) (h2 : B = r.2.1) (h3 : C = r.2.2) : Ending.returned (.tuple #[.bool A, .int .i64 B, .int .i64 C]) = .returned (boolV r) := by
  subst h1 h2 h3; rfl

end Go.Proofs.Ytkhjeeaojlaagaa
/-
  Walks of layer 1's reference: the functions that decode.
-/
namespace Go.Proofs.Ytkhjeeaojlaagaa
open Go.RowKit

def OpenRel (l : List UInt8) (i : Value) : Prop := ∃ k : Nat, i = .int .i64 k ∧ k ≤ l.length ∧ (l.take k).all (fun x => decide (128 ≤ x.toNat)) = true

theorem openB_no {l : List UInt8} {k : Nat} {x : UInt8} (h : l[k]? = some x) (hx : x.toNat < 128) : openB l = false := by
  obtain ⟨h1, h2⟩ := List.getElem?_eq_some_iff.1 h
  unfold openB
  rw [Bool.and_eq_false_iff]
  left
  rw [List.all_eq_false]
  exact ⟨x, by rw [← h2]; exact List.getElem_mem h1, by simp; omega⟩

set_option maxRecDepth 100000 in
theorem open_any (a : Option Addr) (n c : Nat) (l : List UInt8) (w : World) (hb : Bytes w a n c l) (hn : n ≤ 140737488355328) :
    Calls Try.prog 67 #[.slice a n c] w (Ret (.bool (openB l)) w) := by
  have hl := hb.len
  have HL := Lib.hid hl
  clear hl
  go_enter Try.func67, Try.ntmps67
  go_wp2
  go_loop [7] (OpenRel l) (fun i => n - (intOf i).toNat)
  case atStart => exact ⟨0, rfl, by omega, rfl⟩
  case round =>
    obtain ⟨k, rfl, hk, ha⟩ := hrel
    have HA := Lib.hid ha
    have hk' : k ≤ n := by have := HL.out; omega
    clear ha hk
    by_cases h0 : k < n
    · obtain ⟨x, hx⟩ := hb.get h0
      have HX := Lib.hid hx
      clear hx
      by_cases h128 : 128 ≤ x.toNat
      · go_wp2_with (with_reducible refine wpList_ixB rfl (.tmp 5) (.tmp 7) rfl Try.elB rfl hb k rfl rfl x HX.out ?_; intro p hp)
        go_round
        case rel => exact ⟨k + 1, by go_num, by have := HL.out; omega, all_take_succ HX.out HA.out h128⟩
        case measure => simp [intOf]; omega
      · have HO := Lib.hid (openB_no HX.out (by omega))
        go_wp2_with (with_reducible refine wpList_ixB rfl (.tmp 5) (.tmp 7) rfl Try.elB rfl hb k rfl rfl x HX.out ?_; intro p hp)
        go_ret
        rw [HO.out]
        exact ⟨rfl, rfl⟩
    · have hall : openB l = decide (n < 10) := by
        have e := HA.out
        rw [List.take_of_length_le (by have := HL.out; omega)] at e
        unfold openB
        rw [e, HL.out]; rfl
      have HO := Lib.hid hall
      clear hall
      go_wp2
      go_ret
      rw [HO.out]
      exact ⟨ret_bool (by simp; omega), rfl⟩

theorem step_bound (acc i : Nat) (x : UInt8) (hacc : acc < 128 ^ i) (hi : i ≤ 8 ∨ i ≤ 9 ∧ x.toNat ≤ 1) : acc + x.toNat % 128 * 128 ^ i < 2 ^ 64 := by
  rcases hi with hi | ⟨hi, hx⟩
  · have hmul : (x.toNat % 128 + 1) * 128 ^ i ≤ 128 * 128 ^ i := Nat.mul_le_mul_right _ (by omega)
    rw [Nat.add_mul, Nat.one_mul] at hmul
    have h0 : 128 * 128 ^ i = 128 ^ (i + 1) := by rw [Nat.pow_succ]; omega
    have h1 : 128 ^ (i + 1) ≤ 128 ^ 9 := Nat.pow_le_pow_right (by decide) (by omega)
    have h2 : (128 : Nat) ^ 9 = 2 ^ 63 := by decide
    omega
  · have h1 : 128 ^ i ≤ 128 ^ 9 := Nat.pow_le_pow_right (by decide) hi
    have h2 : (128 : Nat) ^ 9 = 2 ^ 63 := by decide
    have h3 : x.toNat % 128 * 128 ^ i ≤ 1 * 128 ^ i := Nat.mul_le_mul_right _ (by omega)
    omega
theorem take_sum (acc i : Nat) (x : UInt8) (hacc : acc < 128 ^ i) (hi : i ≤ 8 ∨ i ≤ 9 ∧ x.toNat ≤ 1) :
    IntKind.u64.wrap ((acc : Int) + IntKind.u64.wrap ((x.toNat : Int) % 128 * 128 ^ i)) = ((acc + x.toNat % 128 * 128 ^ i : Nat) : Int) := by
  have hb := step_bound acc i x hacc hi
  have e : (x.toNat : Int) % 128 * 128 ^ i = ((x.toNat % 128 * 128 ^ i : Nat) : Int) := by simp
  rw [e, IntKind.wrap_u64, IntKind.wrap_u64]
  omega
theorem place_step (i : Nat) (hi : i ≤ 8) : IntKind.u64.wrap ((128 : Int) ^ i * 128) = ((128 ^ (i + 1) : Nat) : Int) := by
  have e : (128 : Int) ^ i * 128 = ((128 ^ (i + 1) : Nat) : Int) := by rw [Nat.pow_succ]; simp
  have h1 : 128 ^ (i + 1) ≤ 128 ^ 9 := Nat.pow_le_pow_right (by decide) (by omega)
  have h2 : (128 : Nat) ^ 9 = 2 ^ 63 := by decide
  rw [e, IntKind.wrap_u64]
  clear e
  generalize 128 ^ (i + 1) = q at *
  omega

def TakeRel (rest : List UInt8) (v place i : Value) : Prop :=
  ∃ (k acc : Nat), v = .int .u64 acc ∧ place = .int .u64 ((128 ^ k : Nat) : Int) ∧ i = .int .i64 k ∧ acc < 128 ^ k ∧ k ≤ 9 ∧ k ≤ rest.length ∧ decF k acc (rest.drop k) = decU rest ∧ (rest.take k).all (fun x => decide (128 ≤ x.toNat)) = true

set_option maxRecDepth 100000 in
set_option maxHeartbeats 1000000 in
theorem TakeUint_any (a : Option Addr) (n c : Nat) (l : List UInt8) (at_ : Int) (w : World) (hb : Bytes w a n c l) (hn : n ≤ 140737488355328) :
    Calls Try.prog 64 #[.slice a n c, .int .i64 at_] w (Ret (uintV (uintRes l at_)) w) := by
  have hl := hb.len
  by_cases hp : at_ < 0 ∨ (n : Int) < at_
  · have hr : uintRes l at_ = (0, 0, 10) := uintRes_out (by omega)
    rw [hr]
    clear hr hl
    rcases hp with hp | hp
    all_goals
      go_enter Try.func64, Try.ntmps64
      go_wp2
      go_ret3
      exact ⟨rfl, rfl⟩
  · obtain ⟨k, rfl⟩ := Int.eq_ofNat_of_zero_le (show 0 ≤ at_ by omega)
    have hk : k ≤ n := by omega
    obtain ⟨rest, hrest⟩ : ∃ rest, rest = l.drop k := ⟨_, rfl⟩
    have hlen : rest.length = n - k := by rw [hrest, List.length_drop, hl]
    have HLk : Hid (k ≤ l.length) := show k ≤ l.length by omega
    have HL := Lib.hid hlen
    have HR := Lib.hid hrest
    clear hl hlen hrest hp
    by_cases ho : openB rest = true
    · have hr := uintRes_no HLk.out (HR.out ▸ decU_open ho) (by decide)
      rw [hr]
      have HO := Lib.hid ho
      clear ho hr
      go_enter Try.func64, Try.ntmps64
      go_wp2_with (first
        | (with_reducible refine wpList_sl_lo rfl (.tmp 20) (.tmp 21) rfl Try.elB rfl hb.row k rfl rfl hk ?_; intro a1 hr1; have hb1 : Bytes w a1 (n - k) (c - k) rest := (by rw [HR.out]; exact Bytes.drop hr1))
        | (go_at_call 67; refine (open_any _ _ _ rest _ hb1 (by omega)).mono ?_; rw [HO.out]; rintro e w1 ⟨rfl, rfl⟩))
      go_ret3
      exact ⟨rfl, rfl⟩
    · have HO := Lib.hid (Bool.eq_false_iff.2 ho)
      clear ho
      go_enter Try.func64, Try.ntmps64
      go_wp2_with (first
        | (with_reducible refine wpList_sl_lo rfl (.tmp 20) (.tmp 21) rfl Try.elB rfl hb.row k rfl rfl hk ?_; intro a1 hr1; have hb1 : Bytes w a1 (n - k) (c - k) rest := (by rw [HR.out]; exact Bytes.drop hr1))
        | (go_at_call 67; refine (open_any _ _ _ rest _ hb1 (by omega)).mono ?_; rw [HO.out]; rintro e w1 ⟨rfl, rfl⟩))
      clear hr1
      go_loop [8, 9, 10] (TakeRel rest) (fun _ _ i => (n - k) - (intOf i).toNat)
      case atStart => exact ⟨0, 0, rfl, rfl, rfl, by simp, by omega, by omega, rfl, rfl⟩
      case round =>
        obtain ⟨i, acc, rfl, rfl, rfl, hacc, hi, hir, hdec, hall⟩ := hrel
        have HD := Lib.hid hdec
        have HA := Lib.hid hall
        clear hdec hall
        have hir' : i ≤ n - k := by have := HL.out; omega
        clear hir
        by_cases h0 : i < n - k
        · obtain ⟨x, hx⟩ := hb1.get h0
          have HX := Lib.hid hx
          clear hx
          by_cases h9 : i ≤ 8
          · by_cases h128 : 128 ≤ x.toNat
            · go_wp2_with (with_reducible refine wpList_ixB rfl (.tmp 35) (.tmp 36) rfl Try.elB rfl hb1 i rfl rfl x HX.out ?_; intro p hp)
              have hs := take_sum acc i x hacc (.inl h9)
              have hs2 := (step_or acc i x hacc (.inl h9)).2
              go_round
              case rel => exact ⟨i + 1, _, by rw [hs], by rw [place_step i h9], by go_num, hs2, by omega, by have := HL.out; omega, dec_step HX.out HD.out (by omega) h128, all_take_succ HX.out HA.out h128⟩
              case measure => simp [intOf]; omega
            · by_cases hz : 1 ≤ x.toNat ∨ x.toNat ≤ 0 ∧ i ≤ 0
              · have hr := uintRes_ok HLk.out (HR.out ▸ dec_done HX.out HD.out (by omega) (by omega) (by omega))
                have HR' := Lib.hid hr
                have HS := Lib.hid (take_sum acc i x hacc (.inl h9))
                clear hr
                rcases hz with hz | ⟨hz, hz'⟩
                · go_wp2_with (with_reducible refine wpList_ixB rfl (.tmp 35) (.tmp 36) rfl Try.elB rfl hb1 i rfl rfl x HX.out ?_; intro p hp)
                  go_ret3
                  rw [HR'.out]
                  exact ⟨uint_ret HS.out (by simp; omega) rfl, rfl⟩
                · obtain rfl : i = 0 := by omega
                  have hx0 : x = 0 := UInt8.toNat_inj.1 (by simp; omega)
                  subst hx0
                  go_wp2_with (with_reducible refine wpList_ixB rfl (.tmp 35) (.tmp 36) rfl Try.elB rfl hb1 0 rfl rfl 0 HX.out ?_; intro p hp)
                  go_ret3
                  rw [HR'.out]
                  exact ⟨uint_ret (by simp) (by simp) rfl, rfl⟩
              · have hr := uintRes_no HLk.out (HR.out ▸ dec_zero HX.out HD.out (by omega)) (by decide)
                have HR' := Lib.hid hr
                clear hr
                have hz1 : x.toNat ≤ 0 := by omega
                have hz2 : 1 ≤ i := by omega
                clear hz
                go_wp2_with (with_reducible refine wpList_ixB rfl (.tmp 35) (.tmp 36) rfl Try.elB rfl hb1 i rfl rfl x HX.out ?_; intro p hp)
                go_ret3
                rw [HR'.out]
                exact ⟨rfl, rfl⟩
          · by_cases h1 : x.toNat ≤ 0 ∨ 2 ≤ x.toNat
            · have hr := uintRes_no HLk.out (HR.out ▸ dec_nine HX.out HD.out (by omega)) (by decide)
              have HR' := Lib.hid hr
              clear hr
              have h9' : 9 ≤ i := by omega
              rcases h1 with h1 | h1
              all_goals
                go_wp2_with (with_reducible refine wpList_ixB rfl (.tmp 35) (.tmp 36) rfl Try.elB rfl hb1 i rfl rfl x HX.out ?_; intro p hp)
                go_ret3
                rw [HR'.out]
                exact ⟨rfl, rfl⟩
            · have h2 : x.toNat ≤ 1 := by omega
              have h3 : 1 ≤ x.toNat := by omega
              clear h1
              have hr := uintRes_ok HLk.out (HR.out ▸ dec_done HX.out HD.out (by omega) (by omega) (by omega))
              have HR' := Lib.hid hr
              have HS := Lib.hid (take_sum acc i x hacc (.inr ⟨hi, h2⟩))
              clear hr
              go_wp2_with (with_reducible refine wpList_ixB rfl (.tmp 35) (.tmp 36) rfl Try.elB rfl hb1 i rfl rfl x HX.out ?_; intro p hp)
              go_ret3
              rw [HR'.out]
              obtain rfl : i = 9 := by omega
              exact ⟨uint_ret HS.out (by simp; omega) rfl, rfl⟩
        · exfalso
          have e := HA.out
          rw [List.take_of_length_le (by have := HL.out; omega)] at e
          have := HO.out
          unfold openB at this
          rw [e] at this
          have := HL.out
          simp at *
          omega

end Go.Proofs.Ytkhjeeaojlaagaa
