/-
  Several texts in one: CodecA, RefA, CodecB, RefB.
-/
import Derived.Test.YtpiodpljiklfkaaBase
import Derived.Test.YtpiodpljiklfkaaMath1
import Derived.Test.YtpiodpljiklfkaaChecked
import Derived.Lib.Zigzag
/-
  Walks of layer 1: the functions that encode.
-/
namespace Go.Proofs.Ytpiodpljiklfkaa
open Go.RowKit

theorem bits_and_127 (y : Nat) (h : y ≤ 18446744073709551615) : bits BinOp.and IntKind.u64 (y : Int) 127 = ((y % 128 : Nat) : Int) := by
  have e := u64_and_nat y 127 (by omega) (by decide)
  have e2 : y &&& 127 = y % 128 := Nat.and_two_pow_sub_one_eq_mod y 7
  rw [e2] at e
  exact e
theorem bits_or_128 (y : Int) (h : 0 ≤ y ∧ y < 128) : bits BinOp.or IntKind.u64 y 128 = y + 128 := by
  obtain ⟨k, rfl⟩ := Int.eq_ofNat_of_zero_le h.1
  have e := u64_or_nat k 128 (by omega) (by decide)
  have e2 : k ||| 128 = k + 128 := by
    have := Nat.two_pow_add_eq_or_of_lt (i := 7) (b := k) (by omega) 1
    rw [Nat.or_comm, Nat.add_comm]; simpa using this.symm
  rw [e2] at e
  exact e

/-- The loop of uintSize: k groups are counted, x is what is left. -/
def SizeRel (v : Nat) (x k : Value) : Prop := ∃ (y n : Nat), x = .int .u64 y ∧ k = .int .i64 n ∧ y ≤ 18446744073709551615 ∧ n ≤ 10 ∧ (enc v).length = n + (if y = 0 then 0 else (enc y).length)

theorem Try.elB : Elem Try.prog 42 5 1 1 (.int .u8 0) := ⟨Try.underlying42, by kernel_rfl, rfl, by decide⟩

/-- The loop of appendUint. -/
def AppRel (B e : Nat) (w : World) (l : List UInt8) (v : Nat) (out x : Value) (wr : World) : Prop :=
  ∃ (a : Option Addr) (n c : Nat) (y : Nat) (p : List UInt8), out = .slice a n c ∧ x = .int .u64 y ∧ wr.ownsRow B e 1 (.slice a n c) n (p.map u8) ∧ Below B w wr ∧ y ≤ v ∧ p ++ enc y = l ++ enc v

/-- A result in new memory that reads as the bytes l. -/
def NewBytes (w : World) (l : List UInt8) (e : Ending) (w' : World) : Prop :=
  ∃ a n c, e = .returned (.slice a n c) ∧ w'.ownsRow w.heap.size 5 1 (.slice a n c) n (l.map u8) ∧ Ext w w'

/-- The Uint as which an int is encoded: P1.2. -/
theorem zig_nonneg (n : Int) (h0 : 0 ≤ n) (h1 : n ≤ 9223372036854775807) : bits BinOp.xor IntKind.u64 (n * 2) (n / 9223372036854775808) = (Lib.zigzag n : Int) := by
  obtain ⟨k, rfl⟩ := Int.eq_ofNat_of_zero_le h0
  have e := bits_xor_u64_nat (k * 2) 0 (by omega) (by decide)
  rw [Nat.xor_zero] at e
  rw [Lib.zigzag_nonneg h0]
  have e0 : (k : Int) / 9223372036854775808 = 0 := by omega
  rw [e0]
  simpa using e
theorem zig_neg (n : Int) (h0 : -9223372036854775808 ≤ n) (h1 : n < 0) : bits BinOp.xor IntKind.u64 (IntKind.u64.wrap (IntKind.u64.wrap n * 2)) (IntKind.u64.wrap (n / 9223372036854775808)) = (Lib.zigzag n : Int) := by
  have e := bits_xor_u64_nat (2 * n + 18446744073709551616).toNat (2 ^ 64 - 1) (by omega) (by decide)
  rw [Nat.xor_comm, Lib.xor_ones64 _ (by omega)] at e
  have e1 : ((2 * n + 18446744073709551616).toNat : Int) = IntKind.u64.wrap (IntKind.u64.wrap n * 2) := by rw [IntKind.wrap_u64, IntKind.wrap_u64]; omega
  rw [e1] at e
  have e2 : ((2 ^ 64 - 1 : Nat) : Int) = IntKind.u64.wrap (n / 9223372036854775808) := by rw [IntKind.wrap_u64]; omega
  rw [e2] at e
  rw [e]
  unfold Lib.zigzag
  rw [if_neg (by omega)]
  omega

end Go.Proofs.Ytpiodpljiklfkaa
/-
  Walks of layer 1's reference: the functions that encode.
-/
namespace Go.Proofs.Ytpiodpljiklfkaa
open Go.RowKit

theorem rem128 (v : Nat) : ((v % 128 + 128 : Nat) : Int) = (v : Int) % 128 + 128 := by omega

end Go.Proofs.Ytpiodpljiklfkaa
/-
  Walks of layer 1: the functions that decode.
-/
namespace Go.Proofs.Ytpiodpljiklfkaa
open Go.RowKit

/-- What Uint returns. -/
def uintV (r : Nat × Int × Int) : Value := .tuple #[.int .u64 r.1, .int .i64 r.2.1, .int .i64 r.2.2]

theorem uint_ret {A B C : Int} {r : Nat × Int × Int} (h1 : A = r.1) (h2 : B = r.2.1) (h3 : C = r.2.2) : Ending.returned (.tuple #[.int .u64 A, .int .i64 B, .int .i64 C]) = .returned (uintV r) := by
  subst h1 h2 h3; rfl

theorem and_127 (x : UInt8) : bits BinOp.and IntKind.u8 (x.toNat : Int) 127 = ((x.toNat % 128 : Nat) : Int) := by
  have e := u8_and_nat x.toNat 127 x.toNat_lt (by decide)
  have e2 : x.toNat &&& 127 = x.toNat % 128 := Nat.and_two_pow_sub_one_eq_mod x.toNat 7
  rw [e2] at e
  exact e

theorem pow_two_seven (i : Nat) : 2 ^ (7 * i) = 128 ^ i := by rw [Nat.pow_mul]

/-- The group that is laid in: an addition. -/
theorem step_or (acc i : Nat) (x : UInt8) (hacc : acc < 128 ^ i) (hi : i ≤ 8 ∨ i ≤ 9 ∧ x.toNat ≤ 1) :
    bits BinOp.or IntKind.u64 (acc : Int) (IntKind.u64.wrap (IntKind.u64.wrap (bits BinOp.and IntKind.u8 (x.toNat : Int) 127) * 2 ^ (7 * i))) = ((acc + x.toNat % 128 * 128 ^ i : Nat) : Int) ∧
      acc + x.toNat % 128 * 128 ^ i < 128 ^ (i + 1) := by
  have hmul : x.toNat % 128 * 128 ^ i + 128 ^ i ≤ 128 ^ (i + 1) := by
    have h : (x.toNat % 128 + 1) * 128 ^ i ≤ 128 * 128 ^ i := Nat.mul_le_mul_right _ (by omega)
    rw [Nat.add_mul, Nat.one_mul] at h
    rw [Nat.pow_succ]; omega
  have hsum : acc + x.toNat % 128 * 128 ^ i < 2 ^ 64 := by
    rcases hi with hi | ⟨hi, hx⟩
    · have h1 : 128 ^ (i + 1) ≤ 128 ^ 9 := Nat.pow_le_pow_right (by decide) (by omega)
      have h2 : (128 : Nat) ^ 9 = 2 ^ 63 := by decide
      omega
    · have h1 : 128 ^ i ≤ 128 ^ 9 := Nat.pow_le_pow_right (by decide) hi
      have h2 : (128 : Nat) ^ 9 = 2 ^ 63 := by decide
      have h3 : x.toNat % 128 * 128 ^ i ≤ 1 * 128 ^ i := Nat.mul_le_mul_right _ (by omega)
      omega
  refine ⟨?_, by omega⟩
  rw [and_127, IntKind.wrap_u64, IntKind.wrap_u64]
  have e1 : ((x.toNat % 128 : Nat) : Int) % 18446744073709551616 = ((x.toNat % 128 : Nat) : Int) := by omega
  have e2 : ((x.toNat % 128 : Nat) : Int) * 2 ^ (7 * i) = ((x.toNat % 128 * 128 ^ i : Nat) : Int) := by
    rw [Int.natCast_mul, ← pow_two_seven]; simp
  rw [e1, e2]
  have e3 : ((x.toNat % 128 * 128 ^ i : Nat) : Int) % 18446744073709551616 = ((x.toNat % 128 * 128 ^ i : Nat) : Int) := by omega
  rw [e3, u64_or_nat _ _ (by omega) (by omega)]
  congr 1
  rw [← pow_two_seven] at hacc ⊢
  have := Nat.two_pow_add_eq_or_of_lt hacc (x.toNat % 128)
  rw [Nat.or_comm, Nat.mul_comm, ← this, Nat.add_comm]

def UintRel (rest : List UInt8) (v i : Value) : Prop := ∃ (k acc : Nat), v = .int .u64 acc ∧ i = .int .i64 k ∧ acc < 128 ^ k ∧ k ≤ 9 ∧ k ≤ rest.length ∧ decF k acc (rest.drop k) = decU rest

theorem u64_and_1 (u : Nat) (h : u ≤ 18446744073709551615) : bits BinOp.and IntKind.u64 (u : Int) 1 = ((u % 2 : Nat) : Int) := by
  have e := u64_and_nat u 1 (by omega) (by decide)
  have e2 : u &&& 1 = u % 2 := Nat.and_two_pow_sub_one_eq_mod u 1
  rw [e2] at e
  exact e

/-- What Int returns. -/
def intV (r : Int × Int × Int) : Value := .tuple #[.int .i64 r.1, .int .i64 r.2.1, .int .i64 r.2.2]

theorem unzig_even (v : Nat) (hv : v ≤ 18446744073709551615) (h : v % 2 = 0) : bits BinOp.xor IntKind.i64 ((v : Int) / 2) 0 = unzig v := by
  have e : bits BinOp.xor IntKind.i64 (((v / 2 : Nat)) : Int) 0 = ((v / 2 : Nat) : Int) := by
    show IntKind.i64.wrap ((BitVec.ofInt 64 ((v / 2 : Nat) : Int) ^^^ BitVec.ofInt 64 0).toNat : Int) = _
    have h1 : (BitVec.ofInt 64 0).toNat = 0 := by decide
    have h2 : (BitVec.ofInt 64 ((v / 2 : Nat) : Int)).toNat = v / 2 := by
      rw [BitVec.ofInt_natCast, BitVec.toNat_ofNat]; exact Nat.mod_eq_of_lt (by omega)
    rw [BitVec.toNat_xor, h1, h2, Nat.xor_zero, IntKind.wrap_i64]
    omega
  have e2 : (v : Int) / 2 = ((v / 2 : Nat) : Int) := by omega
  rw [e2, e, unzig, if_pos h]
theorem unzig_odd (v : Nat) (hv : v ≤ 18446744073709551615) (h : v % 2 = 1) : bits BinOp.xor IntKind.i64 ((v : Int) / 2) (-1) = unzig v := by
  have e : bits BinOp.xor IntKind.i64 (((v / 2 : Nat)) : Int) (-1) = -((v / 2 : Nat) : Int) - 1 := by
    show IntKind.i64.wrap ((BitVec.ofInt 64 ((v / 2 : Nat) : Int) ^^^ BitVec.ofInt 64 (-1)).toNat : Int) = _
    have h1 : (BitVec.ofInt 64 (-1)).toNat = 2 ^ 64 - 1 := by decide
    have h2 : (BitVec.ofInt 64 ((v / 2 : Nat) : Int)).toNat = v / 2 := by
      rw [BitVec.ofInt_natCast, BitVec.toNat_ofNat]; exact Nat.mod_eq_of_lt (by omega)
    rw [BitVec.toNat_xor, h1, h2, Nat.xor_comm, Lib.xor_ones64 _ (by omega), IntKind.wrap_i64]
    omega
  have e2 : (v : Int) / 2 = ((v / 2 : Nat) : Int) := by omega
  rw [e2, e, unzig, if_neg (by omega)]

theorem int_ret {A B C : Int} {r : Int × Int × Int} (h1 : A = r.1) (h2 : B = r.2.1) (h3 : C = r.2.2) : Ending.returned (.tuple #[.int .i64 A, .int .i64 B, .int .i64 C]) = .returned (intV r) := by
  subst h1 h2 h3; rfl

/-- What Text returns. -/
def textV (r : List UInt8 × Int × Int) : Value := .tuple #[.string ⟨r.1.toArray⟩, .int .i64 r.2.1, .int .i64 r.2.2]

/-- What Bool returns. -/
def boolV (r : Bool × Int × Int) : Value := .tuple #[.bool r.1, .int .i64 r.2.1, .int .i64 r.2.2]

theorem bool_ret {A : Bool} {B C : Int} {r : Bool × Int × Int} (h1 : A = r.1) (h2 : B = r.2.1) (h3 : C = r.2.2) : Ending.returned (.tuple #[.bool A, .int .i64 B, .int .i64 C]) = .returned (boolV r) := by
  subst h1 h2 h3; rfl

end Go.Proofs.Ytpiodpljiklfkaa
/-
  Walks of layer 1's reference: the functions that decode.
-/
namespace Go.Proofs.Ytpiodpljiklfkaa
open Go.RowKit

def OpenRel (l : List UInt8) (i : Value) : Prop := ∃ k : Nat, i = .int .i64 k ∧ k ≤ l.length ∧ (l.take k).all (fun x => decide (128 ≤ x.toNat)) = true

theorem openB_no {l : List UInt8} {k : Nat} {x : UInt8} (h : l[k]? = some x) (hx : x.toNat < 128) : openB l = false := by
  obtain ⟨h1, h2⟩ := List.getElem?_eq_some_iff.1 h
  unfold openB
  rw [Bool.and_eq_false_iff]
  left
  rw [List.all_eq_false]
  exact ⟨x, by rw [← h2]; exact List.getElem_mem h1, by simp; omega⟩

theorem step_bound (acc i : Nat) (x : UInt8) (hacc : acc < 128 ^ i) (hi : i ≤ 8 ∨ i ≤ 9 ∧ x.toNat ≤ 1) : acc + x.toNat % 128 * 128 ^ i < 2 ^ 64 := by
  rcases hi with hi | ⟨hi, hx⟩
  · have hmul : (x.toNat % 128 + 1) * 128 ^ i ≤ 128 * 128 ^ i := Nat.mul_le_mul_right _ (by omega)
    rw [Nat.add_mul, Nat.one_mul] at hmul
    have h0 : 128 * 128 ^ i = 128 ^ (i + 1) := by rw [Nat.pow_succ]; omega
    have h1 : 128 ^ (i + 1) ≤ 128 ^ 9 := Nat.pow_le_pow_right (by decide) (by omega)
    have h2 : (128 : Nat) ^ 9 = 2 ^ 63 := by decide
    omega
  · have h1 : 128 ^ i ≤ 128 ^ 9 := Nat.pow_le_pow_right (by decide) hi
    have h2 : (128 : Nat) ^ 9 = 2 ^ 63 := by decide
    have h3 : x.toNat % 128 * 128 ^ i ≤ 1 * 128 ^ i := Nat.mul_le_mul_right _ (by omega)
    omega
theorem take_sum (acc i : Nat) (x : UInt8) (hacc : acc < 128 ^ i) (hi : i ≤ 8 ∨ i ≤ 9 ∧ x.toNat ≤ 1) :
    IntKind.u64.wrap ((acc : Int) + IntKind.u64.wrap ((x.toNat : Int) % 128 * 128 ^ i)) = ((acc + x.toNat % 128 * 128 ^ i : Nat) : Int) := by
  have hb := step_bound acc i x hacc hi
  have e : (x.toNat : Int) % 128 * 128 ^ i = ((x.toNat % 128 * 128 ^ i : Nat) : Int) := by simp
  rw [e, IntKind.wrap_u64, IntKind.wrap_u64]
  omega
theorem place_step (i : Nat) (hi : i ≤ 8) : IntKind.u64.wrap ((128 : Int) ^ i * 128) = ((128 ^ (i + 1) : Nat) : Int) := by
  have e : (128 : Int) ^ i * 128 = ((128 ^ (i + 1) : Nat) : Int) := by rw [Nat.pow_succ]; simp
  have h1 : 128 ^ (i + 1) ≤ 128 ^ 9 := Nat.pow_le_pow_right (by decide) (by omega)
  have h2 : (128 : Nat) ^ 9 = 2 ^ 63 := by decide
  rw [e, IntKind.wrap_u64]
  clear e
  generalize 128 ^ (i + 1) = q at *
  omega

def TakeRel (rest : List UInt8) (v place i : Value) : Prop :=
  ∃ (k acc : Nat), v = .int .u64 acc ∧ place = .int .u64 ((128 ^ k : Nat) : Int) ∧ i = .int .i64 k ∧ acc < 128 ^ k ∧ k ≤ 9 ∧ k ≤ rest.length ∧ decF k acc (rest.drop k) = decU rest ∧ (rest.take k).all (fun x => decide (128 ≤ x.toNat)) = true

end Go.Proofs.Ytpiodpljiklfkaa
