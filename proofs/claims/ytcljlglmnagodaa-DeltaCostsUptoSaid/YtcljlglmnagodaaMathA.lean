/-
  Plain law of layer 1's numbers: the encoding of a number in groups of seven bits, and its decoding. No program stands in it.
-/
namespace Go.Proofs.Ytcljlglmnagodaa

/-- The encoding of a number: P1.1. -/
def enc (v : Nat) : List UInt8 := if v < 128 then [UInt8.ofNat v] else UInt8.ofNat (v % 128 + 128) :: enc (v / 128)
termination_by v
decreasing_by omega

theorem enc_lt {v : Nat} (h : v < 128) : enc v = [UInt8.ofNat v] := by rw [enc, if_pos h]
theorem enc_ge {v : Nat} (h : 128 ≤ v) : enc v = UInt8.ofNat (v % 128 + 128) :: enc (v / 128) := by rw [enc, if_neg (by omega)]
theorem enc_pos (v : Nat) : 0 < (enc v).length := by
  rcases Nat.lt_or_ge v 128 with h | h
  · rw [enc_lt h]; simp
  · rw [enc_ge h]; simp
theorem enc_len_lt {v : Nat} (h : v < 128) : (enc v).length = 1 := by rw [enc_lt h]; rfl
theorem enc_len_ge {v : Nat} (h : 128 ≤ v) : (enc v).length = (enc (v / 128)).length + 1 := by rw [enc_ge h]; simp
theorem enc_le (k : Nat) : ∀ v, v < 128 ^ (k + 1) → (enc v).length ≤ k + 1 := by
  induction k with
  | zero => intro v h; rw [enc_len_lt (by simpa using h)]; omega
  | succ k ih =>
    intro v h
    rcases Nat.lt_or_ge v 128 with h1 | h1
    · rw [enc_len_lt h1]; omega
    · rw [enc_len_ge h1]
      have := ih (v / 128) (by rw [Nat.pow_succ] at h; exact Nat.div_lt_of_lt_mul (by rw [Nat.mul_comm]; exact h))
      omega
theorem enc_le10 {v : Nat} (h : v ≤ 18446744073709551615) : (enc v).length ≤ 10 := enc_le 9 v (Nat.lt_of_le_of_lt h (by decide))

/-! ### Decoding: P1.4 (the numbers of the errors: 0 OK, 10 ErrCodecPlace, 11 ErrCodecShort, 12 ErrCodecForm, 13 ErrCodecLong) -/

/-- From group i on, acc gathered so far: the number, the bytes that were taken in all, the error. -/
def decF : Nat → Nat → List UInt8 → Nat × Nat × Int
  | _, _, [] => (0, 0, 11)
  | i, acc, c :: t =>
    if i = 9 ∧ c.toNat ≠ 1 then (0, 0, 12)
    else if 128 ≤ c.toNat then decF (i + 1) (acc + c.toNat % 128 * 128 ^ i) t
    else if c.toNat = 0 ∧ 0 < i then (0, 0, 12)
    else (acc + c.toNat % 128 * 128 ^ i, i + 1, 0)

def decU (l : List UInt8) : Nat × Nat × Int := decF 0 0 l

/-- Uint(b, at): the number, the offset behind it, the error. -/
def uintRes (l : List UInt8) (at_ : Int) : Nat × Int × Int :=
  if at_ < 0 ∨ (l.length : Int) < at_ then (0, 0, 10)
  else if (decU (l.drop at_.toNat)).2.2 = 0 then ((decU (l.drop at_.toNat)).1, at_ + (decU (l.drop at_.toNat)).2.1, 0)
  else (0, 0, (decU (l.drop at_.toNat)).2.2)

theorem drop_of_get {rest : List UInt8} {i : Nat} {x : UInt8} (h : rest[i]? = some x) : rest.drop i = x :: rest.drop (i + 1) := by
  obtain ⟨h1, h2⟩ := List.getElem?_eq_some_iff.1 h
  rw [List.drop_eq_getElem_cons h1, h2]
theorem dec_short {rest : List UInt8} {i acc : Nat} (h : rest.length ≤ i) (hd : decF i acc (rest.drop i) = decU rest) : decU rest = (0, 0, 11) := by
  rw [← hd, List.drop_eq_nil_of_le h]; rfl
theorem dec_step {rest : List UInt8} {i acc : Nat} {x : UInt8} (h : rest[i]? = some x) (hd : decF i acc (rest.drop i) = decU rest) (h9 : ¬ (i = 9 ∧ x.toNat ≠ 1)) (h128 : 128 ≤ x.toNat) :
    decF (i + 1) (acc + x.toNat % 128 * 128 ^ i) (rest.drop (i + 1)) = decU rest := by
  rw [← hd, drop_of_get h, decF, if_neg h9, if_pos h128]
theorem dec_done {rest : List UInt8} {i acc : Nat} {x : UInt8} (h : rest[i]? = some x) (hd : decF i acc (rest.drop i) = decU rest) (h9 : ¬ (i = 9 ∧ x.toNat ≠ 1)) (h128 : x.toNat < 128) (hz : ¬ (x.toNat = 0 ∧ 0 < i)) :
    decU rest = (acc + x.toNat % 128 * 128 ^ i, i + 1, 0) := by
  rw [← hd, drop_of_get h, decF, if_neg h9, if_neg (by omega), if_neg hz]
theorem dec_zero {rest : List UInt8} {i acc : Nat} {x : UInt8} (h : rest[i]? = some x) (hd : decF i acc (rest.drop i) = decU rest) (hz : x.toNat = 0 ∧ 0 < i) : decU rest = (0, 0, 12) := by
  rw [← hd, drop_of_get h, decF]
  rw [if_neg (show ¬ 128 ≤ x.toNat by omega), if_pos hz]
  exact ite_self _
theorem dec_nine {rest : List UInt8} {i acc : Nat} {x : UInt8} (h : rest[i]? = some x) (hd : decF i acc (rest.drop i) = decU rest) (h9 : i = 9 ∧ x.toNat ≠ 1) : decU rest = (0, 0, 12) := by
  rw [← hd, drop_of_get h, decF, if_pos h9]

theorem uintRes_in {l : List UInt8} {k : Nat} (h : k ≤ l.length) : uintRes l (k : Int) = (if (decU (l.drop k)).2.2 = 0 then ((decU (l.drop k)).1, (k : Int) + (decU (l.drop k)).2.1, 0) else (0, 0, (decU (l.drop k)).2.2)) := by
  unfold uintRes
  rw [if_neg (by omega), Int.toNat_natCast]
theorem uintRes_ok {l : List UInt8} {k v j : Nat} (h : k ≤ l.length) (hd : decU (l.drop k) = (v, j, 0)) : uintRes l (k : Int) = (v, (k : Int) + j, 0) := by
  rw [uintRes_in h, hd]; rfl
theorem uintRes_no {l : List UInt8} {k : Nat} {e : Int} (h : k ≤ l.length) (hd : decU (l.drop k) = (0, 0, e)) (he : e ≠ 0) : uintRes l (k : Int) = (0, 0, e) := by
  rw [uintRes_in h, hd, if_neg he]
theorem uintRes_out {l : List UInt8} {k : Int} (h : k < 0 ∨ (l.length : Int) < k) : uintRes l k = (0, 0, 10) := by
  unfold uintRes; rw [if_pos h]

theorem decF_spec (l : List UInt8) : ∀ i acc, i ≤ 9 → acc < 128 ^ i →
    ((decF i acc l).2.2 = 0 ∧ (decF i acc l).1 < 2 ^ 64 ∧ i < (decF i acc l).2.1 ∧ (decF i acc l).2.1 ≤ i + l.length ∧ (decF i acc l).2.1 ≤ 10) ∨
      (∃ e, decF i acc l = (0, 0, e) ∧ (e = 11 ∨ e = 12)) := by
  induction l with
  | nil => intro i acc _ _; exact .inr ⟨11, rfl, .inl rfl⟩
  | cons c t ih =>
    intro i acc hi hacc
    have hmul : c.toNat % 128 * 128 ^ i + 128 ^ i ≤ 128 ^ (i + 1) := by
      have h : (c.toNat % 128 + 1) * 128 ^ i ≤ 128 * 128 ^ i := Nat.mul_le_mul_right _ (by omega)
      rw [Nat.add_mul, Nat.one_mul] at h
      rw [Nat.pow_succ]; omega
    rw [decF]
    by_cases h9 : i = 9 ∧ c.toNat ≠ 1
    · rw [if_pos h9]; exact .inr ⟨12, rfl, .inr rfl⟩
    · rw [if_neg h9]
      by_cases h128 : 128 ≤ c.toNat
      · rw [if_pos h128]
        rcases ih (i + 1) (acc + c.toNat % 128 * 128 ^ i) (by omega) (by omega) with h | h
        · left
          simp only [List.length_cons]
          omega
        · exact .inr h
      · rw [if_neg h128]
        by_cases hz : c.toNat = 0 ∧ 0 < i
        · rw [if_pos hz]; exact .inr ⟨12, rfl, .inr rfl⟩
        · rw [if_neg hz]
          refine .inl ⟨rfl, ?_, Nat.lt_succ_self _, by simp, by show i + 1 ≤ 10; omega⟩
          show acc + c.toNat % 128 * 128 ^ i < 2 ^ 64
          by_cases h8 : i ≤ 8
          · have h1 : 128 ^ (i + 1) ≤ 128 ^ 9 := Nat.pow_le_pow_right (by decide) (by omega)
            have h2 : (128 : Nat) ^ 9 = 2 ^ 63 := by decide
            omega
          · obtain rfl : i = 9 := by omega
            have h2 : (128 : Nat) ^ 9 = 2 ^ 63 := by decide
            have h3 : c.toNat = 1 := by omega
            rw [h3]; omega

theorem decU_spec (l : List UInt8) : (∃ v j, decU l = (v, j, 0) ∧ v ≤ 18446744073709551615 ∧ 0 < j ∧ j ≤ l.length ∧ j ≤ 10) ∨ (∃ e, decU l = (0, 0, e) ∧ (e = 11 ∨ e = 12)) := by
  rcases decF_spec l 0 0 (by omega) (by decide) with h | h
  · left
    rcases hr : decF 0 0 l with ⟨v, j, e⟩
    rw [hr] at h
    obtain ⟨h1, h2, h3, h4, h5⟩ := h
    simp only at h1 h2 h3 h4 h5
    subst h1
    exact ⟨v, j, hr, by omega, h3, by omega, h5⟩
  · exact .inr h

theorem uintRes_cases (l : List UInt8) (at_ : Int) :
    (∃ v k j : Nat, uintRes l at_ = (v, (k : Int) + j, 0) ∧ at_ = k ∧ v ≤ 18446744073709551615 ∧ 0 < j ∧ k + j ≤ l.length ∧ j ≤ 10 ∧ decU (l.drop k) = (v, j, 0)) ∨
      (∃ e, uintRes l at_ = (0, 0, e) ∧ (e = 10 ∨ e = 11 ∨ e = 12)) := by
  by_cases h : at_ < 0 ∨ (l.length : Int) < at_
  · exact .inr ⟨10, uintRes_out h, .inl rfl⟩
  · obtain ⟨k, rfl⟩ := Int.eq_ofNat_of_zero_le (show 0 ≤ at_ by omega)
    rcases decU_spec (l.drop k) with ⟨v, j, hd, h1, h2, h3, h4⟩ | ⟨e, hd, he⟩
    · rw [List.length_drop] at h3
      exact .inl ⟨v, k, j, uintRes_ok (by omega) hd, rfl, h1, h2, by omega, h4, hd⟩
    · exact .inr ⟨e, uintRes_no (by omega) hd (by omega), by omega⟩

/-- The int that is encoded as the Uint u: P1.2. -/
def unzig (u : Nat) : Int := if u % 2 = 0 then ((u / 2 : Nat) : Int) else -((u / 2 : Nat) : Int) - 1

def intRes (l : List UInt8) (at_ : Int) : Int × Int × Int :=
  if (uintRes l at_).2.2 = 0 then (unzig (uintRes l at_).1, (uintRes l at_).2.1, 0) else (0, 0, (uintRes l at_).2.2)

/-- Text(b, at, most): the bytes, the offset behind them, the error. -/
def textRes (l : List UInt8) (at_ most : Int) : List UInt8 × Int × Int :=
  if (uintRes l at_).2.2 ≠ 0 then ([], 0, (uintRes l at_).2.2)
  else if (max most 0 : Int) < (uintRes l at_).1 then ([], 0, 13)
  else if (l.length : Int) - (uintRes l at_).2.1 < (uintRes l at_).1 then ([], 0, 11)
  else ((l.drop (uintRes l at_).2.1.toNat).take (uintRes l at_).1, (uintRes l at_).2.1 + (uintRes l at_).1, 0)

def boolRes (l : List UInt8) (at_ : Int) : Bool × Int × Int :=
  if at_ < 0 ∨ (l.length : Int) < at_ then (false, 0, 10)
  else match l[at_.toNat]? with
    | none => (false, 0, 11)
    | some x => if 1 < x.toNat then (false, 0, 12) else (decide (x.toNat = 1), at_ + 1, 0)

/-- A proper beginning of an encoding. -/
def openB (l : List UInt8) : Bool := l.all (fun x => decide (128 ≤ x.toNat)) && decide (l.length < 10)

theorem decF_open (l : List UInt8) : ∀ i acc, l.all (fun x => decide (128 ≤ x.toNat)) = true → i + l.length < 10 → decF i acc l = (0, 0, 11) := by
  induction l with
  | nil => intro i acc _ _; rfl
  | cons c t ih =>
    intro i acc h hl
    simp only [List.all_cons, Bool.and_eq_true, decide_eq_true_eq, List.length_cons] at h hl
    rw [decF, if_neg (by omega), if_pos h.1]
    exact ih _ _ h.2 (by omega)
theorem decU_open {l : List UInt8} (h : openB l = true) : decU l = (0, 0, 11) := by
  simp only [openB, Bool.and_eq_true, decide_eq_true_eq] at h
  exact decF_open l 0 0 h.1 (by omega)

theorem all_take_succ {rest : List UInt8} {i : Nat} {x : UInt8} (h : rest[i]? = some x) (ha : (rest.take i).all (fun x => decide (128 ≤ x.toNat)) = true) (hx : 128 ≤ x.toNat) :
    (rest.take (i + 1)).all (fun x => decide (128 ≤ x.toNat)) = true := by
  obtain ⟨h1, h2⟩ := List.getElem?_eq_some_iff.1 h
  rw [List.take_succ_eq_append_getElem h1, List.all_append, ha, h2]
  simpa using hx

end Go.Proofs.Ytcljlglmnagodaa
