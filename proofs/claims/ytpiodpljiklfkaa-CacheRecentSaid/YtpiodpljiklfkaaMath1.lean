/-
  Several texts in one: MathA, MathB, MathD, MathE, MathF, MathG, MathH, MathI, MathJ.
-/
import Derived.Lib.Zigzag
/-
  Plain law of layer 1's numbers: the encoding of a number in groups of seven bits, and its decoding. No program stands in it.
-/
namespace Go.Proofs.Ytpiodpljiklfkaa

/-- The encoding of a number: P1.1. -/
def enc (v : Nat) : List UInt8 := if v < 128 then [UInt8.ofNat v] else UInt8.ofNat (v % 128 + 128) :: enc (v / 128)
termination_by v
decreasing_by omega

theorem enc_lt {v : Nat} (h : v < 128) : enc v = [UInt8.ofNat v] := by rw [enc, if_pos h]
theorem enc_ge {v : Nat} (h : 128 ≤ v) : enc v = UInt8.ofNat (v % 128 + 128) :: enc (v / 128) := by rw [enc, if_neg (by omega)]
theorem enc_pos (v : Nat) : 0 < (enc v).length := by
  rcases Nat.lt_or_ge v 128 with h | h
  · rw [enc_lt h]; simp
  · rw [enc_ge h]; simp
theorem enc_len_lt {v : Nat} (h : v < 128) : (enc v).length = 1 := by rw [enc_lt h]; rfl
theorem enc_len_ge {v : Nat} (h : 128 ≤ v) : (enc v).length = (enc (v / 128)).length + 1 := by rw [enc_ge h]; simp
theorem enc_le (k : Nat) : ∀ v, v < 128 ^ (k + 1) → (enc v).length ≤ k + 1 := by
  induction k with
  | zero => intro v h; rw [enc_len_lt (by simpa using h)]; omega
  | succ k ih =>
    intro v h
    rcases Nat.lt_or_ge v 128 with h1 | h1
    · rw [enc_len_lt h1]; omega
    · rw [enc_len_ge h1]
      have := ih (v / 128) (by rw [Nat.pow_succ] at h; exact Nat.div_lt_of_lt_mul (by rw [Nat.mul_comm]; exact h))
      omega
theorem enc_le10 {v : Nat} (h : v ≤ 18446744073709551615) : (enc v).length ≤ 10 := enc_le 9 v (Nat.lt_of_le_of_lt h (by decide))

/-! ### Decoding: P1.4 (the numbers of the errors: 0 OK, 10 ErrCodecPlace, 11 ErrCodecShort, 12 ErrCodecForm, 13 ErrCodecLong) -/

/-- From group i on, acc gathered so far: the number, the bytes that were taken in all, the error. -/
def decF : Nat → Nat → List UInt8 → Nat × Nat × Int
  | _, _, [] => (0, 0, 11)
  | i, acc, c :: t =>
    if i = 9 ∧ c.toNat ≠ 1 then (0, 0, 12)
    else if 128 ≤ c.toNat then decF (i + 1) (acc + c.toNat % 128 * 128 ^ i) t
    else if c.toNat = 0 ∧ 0 < i then (0, 0, 12)
    else (acc + c.toNat % 128 * 128 ^ i, i + 1, 0)

def decU (l : List UInt8) : Nat × Nat × Int := decF 0 0 l

/-- Uint(b, at): the number, the offset behind it, the error. -/
def uintRes (l : List UInt8) (at_ : Int) : Nat × Int × Int :=
  if at_ < 0 ∨ (l.length : Int) < at_ then (0, 0, 10)
  else if (decU (l.drop at_.toNat)).2.2 = 0 then ((decU (l.drop at_.toNat)).1, at_ + (decU (l.drop at_.toNat)).2.1, 0)
  else (0, 0, (decU (l.drop at_.toNat)).2.2)

theorem drop_of_get {rest : List UInt8} {i : Nat} {x : UInt8} (h : rest[i]? = some x) : rest.drop i = x :: rest.drop (i + 1) := by
  obtain ⟨h1, h2⟩ := List.getElem?_eq_some_iff.1 h
  rw [List.drop_eq_getElem_cons h1, h2]
theorem dec_short {rest : List UInt8} {i acc : Nat} (h : rest.length ≤ i) (hd : decF i acc (rest.drop i) = decU rest) : decU rest = (0, 0, 11) := by
  rw [← hd, List.drop_eq_nil_of_le h]; rfl
theorem dec_step {rest : List UInt8} {i acc : Nat} {x : UInt8} (h : rest[i]? = some x) (hd : decF i acc (rest.drop i) = decU rest) (h9 : ¬ (i = 9 ∧ x.toNat ≠ 1)) (h128 : 128 ≤ x.toNat) :
    decF (i + 1) (acc + x.toNat % 128 * 128 ^ i) (rest.drop (i + 1)) = decU rest := by
  rw [← hd, drop_of_get h, decF, if_neg h9, if_pos h128]
theorem dec_done {rest : List UInt8} {i acc : Nat} {x : UInt8} (h : rest[i]? = some x) (hd : decF i acc (rest.drop i) = decU rest) (h9 : ¬ (i = 9 ∧ x.toNat ≠ 1)) (h128 : x.toNat < 128) (hz : ¬ (x.toNat = 0 ∧ 0 < i)) :
    decU rest = (acc + x.toNat % 128 * 128 ^ i, i + 1, 0) := by
  rw [← hd, drop_of_get h, decF, if_neg h9, if_neg (by omega), if_neg hz]
theorem dec_zero {rest : List UInt8} {i acc : Nat} {x : UInt8} (h : rest[i]? = some x) (hd : decF i acc (rest.drop i) = decU rest) (hz : x.toNat = 0 ∧ 0 < i) : decU rest = (0, 0, 12) := by
  rw [← hd, drop_of_get h, decF]
  rw [if_neg (show ¬ 128 ≤ x.toNat by omega), if_pos hz]
  exact ite_self _
theorem dec_nine {rest : List UInt8} {i acc : Nat} {x : UInt8} (h : rest[i]? = some x) (hd : decF i acc (rest.drop i) = decU rest) (h9 : i = 9 ∧ x.toNat ≠ 1) : decU rest = (0, 0, 12) := by
  rw [← hd, drop_of_get h, decF, if_pos h9]

theorem uintRes_in {l : List UInt8} {k : Nat} (h : k ≤ l.length) : uintRes l (k : Int) = (if (decU (l.drop k)).2.2 = 0 then ((decU (l.drop k)).1, (k : Int) + (decU (l.drop k)).2.1, 0) else (0, 0, (decU (l.drop k)).2.2)) := by
  unfold uintRes
  rw [if_neg (by omega), Int.toNat_natCast]
theorem uintRes_ok {l : List UInt8} {k v j : Nat} (h : k ≤ l.length) (hd : decU (l.drop k) = (v, j, 0)) : uintRes l (k : Int) = (v, (k : Int) + j, 0) := by
  rw [uintRes_in h, hd]; rfl
theorem uintRes_no {l : List UInt8} {k : Nat} {e : Int} (h : k ≤ l.length) (hd : decU (l.drop k) = (0, 0, e)) (he : e ≠ 0) : uintRes l (k : Int) = (0, 0, e) := by
  rw [uintRes_in h, hd, if_neg he]
theorem uintRes_out {l : List UInt8} {k : Int} (h : k < 0 ∨ (l.length : Int) < k) : uintRes l k = (0, 0, 10) := by
  unfold uintRes; rw [if_pos h]

theorem decF_spec (l : List UInt8) : ∀ i acc, i ≤ 9 → acc < 128 ^ i →
    ((decF i acc l).2.2 = 0 ∧ (decF i acc l).1 < 2 ^ 64 ∧ i < (decF i acc l).2.1 ∧ (decF i acc l).2.1 ≤ i + l.length ∧ (decF i acc l).2.1 ≤ 10) ∨
      (∃ e, decF i acc l = (0, 0, e) ∧ (e = 11 ∨ e = 12)) := by
  induction l with
  | nil => intro i acc _ _; exact .inr ⟨11, rfl, .inl rfl⟩
  | cons c t ih =>
    intro i acc hi hacc
    have hmul : c.toNat % 128 * 128 ^ i + 128 ^ i ≤ 128 ^ (i + 1) := by
      have h : (c.toNat % 128 + 1) * 128 ^ i ≤ 128 * 128 ^ i := Nat.mul_le_mul_right _ (by omega)
      rw [Nat.add_mul, Nat.one_mul] at h
      rw [Nat.pow_succ]; omega
    rw [decF]
    by_cases h9 : i = 9 ∧ c.toNat ≠ 1
    · rw [if_pos h9]; exact .inr ⟨12, rfl, .inr rfl⟩
    · rw [if_neg h9]
      by_cases h128 : 128 ≤ c.toNat
      · rw [if_pos h128]
        rcases ih (i + 1) (acc + c.toNat % 128 * 128 ^ i) (by omega) (by omega) with h | h
        · left
          simp only [List.length_cons]
          omega
        · exact .inr h
      · rw [if_neg h128]
        by_cases hz : c.toNat = 0 ∧ 0 < i
        · rw [if_pos hz]; exact .inr ⟨12, rfl, .inr rfl⟩
        · rw [if_neg hz]
          refine .inl ⟨rfl, ?_, Nat.lt_succ_self _, by simp, by show i + 1 ≤ 10; omega⟩
          show acc + c.toNat % 128 * 128 ^ i < 2 ^ 64
          by_cases h8 : i ≤ 8
          · have h1 : 128 ^ (i + 1) ≤ 128 ^ 9 := Nat.pow_le_pow_right (by decide) (by omega)
            have h2 : (128 : Nat) ^ 9 = 2 ^ 63 := by decide
            omega
          · obtain rfl : i = 9 := by omega
            have h2 : (128 : Nat) ^ 9 = 2 ^ 63 := by decide
            have h3 : c.toNat = 1 := by omega
            rw [h3]; omega

theorem decU_spec (l : List UInt8) : (∃ v j, decU l = (v, j, 0) ∧ v ≤ 18446744073709551615 ∧ 0 < j ∧ j ≤ l.length ∧ j ≤ 10) ∨ (∃ e, decU l = (0, 0, e) ∧ (e = 11 ∨ e = 12)) := by
  rcases decF_spec l 0 0 (by omega) (by decide) with h | h
  · left
    rcases hr : decF 0 0 l with ⟨v, j, e⟩
    rw [hr] at h
    obtain ⟨h1, h2, h3, h4, h5⟩ := h
    simp only at h1 h2 h3 h4 h5
    subst h1
    exact ⟨v, j, hr, by omega, h3, by omega, h5⟩
  · exact .inr h

theorem uintRes_cases (l : List UInt8) (at_ : Int) :
    (∃ v k j : Nat, uintRes l at_ = (v, (k : Int) + j, 0) ∧ at_ = k ∧ v ≤ 18446744073709551615 ∧ 0 < j ∧ k + j ≤ l.length ∧ j ≤ 10 ∧ decU (l.drop k) = (v, j, 0)) ∨
      (∃ e, uintRes l at_ = (0, 0, e) ∧ (e = 10 ∨ e = 11 ∨ e = 12)) := by
  by_cases h : at_ < 0 ∨ (l.length : Int) < at_
  · exact .inr ⟨10, uintRes_out h, .inl rfl⟩
  · obtain ⟨k, rfl⟩ := Int.eq_ofNat_of_zero_le (show 0 ≤ at_ by omega)
    rcases decU_spec (l.drop k) with ⟨v, j, hd, h1, h2, h3, h4⟩ | ⟨e, hd, he⟩
    · rw [List.length_drop] at h3
      exact .inl ⟨v, k, j, uintRes_ok (by omega) hd, rfl, h1, h2, by omega, h4, hd⟩
    · exact .inr ⟨e, uintRes_no (by omega) hd (by omega), by omega⟩

/-- The int that is encoded as the Uint u: P1.2. -/
def unzig (u : Nat) : Int := if u % 2 = 0 then ((u / 2 : Nat) : Int) else -((u / 2 : Nat) : Int) - 1

def intRes (l : List UInt8) (at_ : Int) : Int × Int × Int :=
  if (uintRes l at_).2.2 = 0 then (unzig (uintRes l at_).1, (uintRes l at_).2.1, 0) else (0, 0, (uintRes l at_).2.2)

/-- Text(b, at, most): the bytes, the offset behind them, the error. -/
def textRes (l : List UInt8) (at_ most : Int) : List UInt8 × Int × Int :=
  if (uintRes l at_).2.2 ≠ 0 then ([], 0, (uintRes l at_).2.2)
  else if (max most 0 : Int) < (uintRes l at_).1 then ([], 0, 13)
  else if (l.length : Int) - (uintRes l at_).2.1 < (uintRes l at_).1 then ([], 0, 11)
  else ((l.drop (uintRes l at_).2.1.toNat).take (uintRes l at_).1, (uintRes l at_).2.1 + (uintRes l at_).1, 0)

def boolRes (l : List UInt8) (at_ : Int) : Bool × Int × Int :=
  if at_ < 0 ∨ (l.length : Int) < at_ then (false, 0, 10)
  else match l[at_.toNat]? with
    | none => (false, 0, 11)
    | some x => if 1 < x.toNat then (false, 0, 12) else (decide (x.toNat = 1), at_ + 1, 0)

/-- A proper beginning of an encoding. -/
def openB (l : List UInt8) : Bool := l.all (fun x => decide (128 ≤ x.toNat)) && decide (l.length < 10)

theorem decF_open (l : List UInt8) : ∀ i acc, l.all (fun x => decide (128 ≤ x.toNat)) = true → i + l.length < 10 → decF i acc l = (0, 0, 11) := by
  induction l with
  | nil => intro i acc _ _; rfl
  | cons c t ih =>
    intro i acc h hl
    simp only [List.all_cons, Bool.and_eq_true, decide_eq_true_eq, List.length_cons] at h hl
    rw [decF, if_neg (by omega), if_pos h.1]
    exact ih _ _ h.2 (by omega)
theorem decU_open {l : List UInt8} (h : openB l = true) : decU l = (0, 0, 11) := by
  simp only [openB, Bool.and_eq_true, decide_eq_true_eq] at h
  exact decF_open l 0 0 h.1 (by omega)

theorem all_take_succ {rest : List UInt8} {i : Nat} {x : UInt8} (h : rest[i]? = some x) (ha : (rest.take i).all (fun x => decide (128 ≤ x.toNat)) = true) (hx : 128 ≤ x.toNat) :
    (rest.take (i + 1)).all (fun x => decide (128 ≤ x.toNat)) = true := by
  obtain ⟨h1, h2⟩ := List.getElem?_eq_some_iff.1 h
  rw [List.take_succ_eq_append_getElem h1, List.all_append, ha, h2]
  simpa using hx

end Go.Proofs.Ytpiodpljiklfkaa
/-
  Plain laws of layer 1: encoding and decoding are inverse; no encoding begins another one; folding of signs.
-/
namespace Go.Proofs.Ytpiodpljiklfkaa

theorem decF_enc (v : Nat) : ∀ (i acc : Nat) (r : List UInt8), (i = 0 ∨ 0 < v) → v * 128 ^ i < 2 ^ 64 → i ≤ 9 → decF i acc (enc v ++ r) = (acc + v * 128 ^ i, i + (enc v).length, 0) := by
  induction v using Nat.strongRecOn with
  | _ v ih =>
  intro i acc r h0 hb hi
  have h9 : i = 9 → v ≤ 1 := by
    rintro rfl
    have h2 : (128 : Nat) ^ 9 = 2 ^ 63 := by decide
    rw [h2] at hb
    omega
  by_cases h : v < 128
  · rw [enc_lt h, List.cons_append, decF]
    have hc : (UInt8.ofNat v).toNat = v := by rw [UInt8.toNat_ofNat']; exact Nat.mod_eq_of_lt (by omega)
    rw [hc, if_neg (by omega), if_neg (by omega), if_neg (by omega), Nat.mod_eq_of_lt h]
    rfl
  · rw [enc_ge (by omega), List.cons_append, decF]
    have hc : (UInt8.ofNat (v % 128 + 128)).toNat = v % 128 + 128 := by rw [UInt8.toNat_ofNat']; exact Nat.mod_eq_of_lt (by omega)
    rw [hc, if_neg (by omega), if_pos (by omega)]
    have e1 : (v % 128 + 128) % 128 = v % 128 := by omega
    have e2 : v * 128 ^ i = v % 128 * 128 ^ i + v / 128 * 128 ^ (i + 1) := by
      have : v = v % 128 + v / 128 * 128 := by omega
      rw [Nat.pow_succ, Nat.mul_comm (128 ^ i) 128, ← Nat.mul_assoc, ← Nat.add_mul, ← this]
    have hi9 : i ≠ 9 := fun e => by have := h9 e; omega
    rw [e1, ih (v / 128) (by omega) (i + 1) _ r (.inr (by omega)) (by omega) (by omega), e2]
    simp only [List.length_cons, Prod.mk.injEq, and_true]
    omega

theorem decU_enc {v : Nat} (hv : v ≤ 18446744073709551615) (r : List UInt8) : decU (enc v ++ r) = (v, (enc v).length, 0) := by
  have := decF_enc v 0 0 r (.inl rfl) (by simp; omega) (by omega)
  simpa [decU] using this

theorem decF_is (l : List UInt8) : ∀ (i acc V j : Nat), decF i acc l = (V, j, 0) → ∃ v, V = acc + v * 128 ^ i ∧ j = i + (enc v).length ∧ (∃ r, l = enc v ++ r) ∧ (i = 0 ∨ 0 < v) := by
  induction l with
  | nil => intro i acc V j h; simp [decF] at h
  | cons c t ih =>
    intro i acc V j h
    rw [decF] at h
    split at h
    · simp at h
    · split at h
      · rename_i h128
        obtain ⟨v, hV, hj, ⟨r, hr⟩, hv⟩ := ih _ _ _ _ h
        have hv' : 0 < v := by omega
        refine ⟨c.toNat % 128 + 128 * v, ?_, ?_, ⟨r, ?_⟩, .inr (by omega)⟩
        · rw [hV, Nat.pow_succ, Nat.add_mul, Nat.mul_comm 128 v, Nat.mul_assoc v 128, Nat.mul_comm 128 (128 ^ i)]; omega
        · rw [enc_len_ge (by omega), show (c.toNat % 128 + 128 * v) / 128 = v by omega, hj]; omega
        · rw [enc_ge (by omega), show (c.toNat % 128 + 128 * v) / 128 = v by omega, show (c.toNat % 128 + 128 * v) % 128 + 128 = c.toNat by have := c.toNat_lt; omega, UInt8.ofNat_toNat, hr]
          rfl
      · split at h
        · simp at h
        · rename_i h128 hz
          simp only [Prod.mk.injEq] at h
          refine ⟨c.toNat, ?_, ?_, ⟨t, ?_⟩, by omega⟩
          · rw [← h.1, Nat.mod_eq_of_lt (by omega)]
          · rw [enc_len_lt (by omega), ← h.2.1]
          · rw [enc_lt (by omega), UInt8.ofNat_toNat]; rfl

theorem decU_is {l : List UInt8} {v j : Nat} (h : decU l = (v, j, 0)) : j = (enc v).length ∧ ∃ r, l = enc v ++ r := by
  obtain ⟨u, hu, hj, hr, _⟩ := decF_is l 0 0 v j h
  obtain rfl : v = u := by simpa using hu
  exact ⟨by omega, hr⟩

theorem enc_inj {v w : Nat} (hv : v ≤ 18446744073709551615) (hw : w ≤ 18446744073709551615) {r s : List UInt8} (h : enc v ++ r = enc w ++ s) : v = w := by
  have a := decU_enc hv r
  have b := decU_enc hw s
  rw [h, b] at a
  exact ((Prod.mk.inj a).1).symm

theorem enc_mono (v : Nat) : ∀ w, v ≤ w → (enc v).length ≤ (enc w).length := by
  induction v using Nat.strongRecOn with
  | _ v ih =>
  intro w h
  by_cases hv : v < 128
  · rw [enc_len_lt hv]; exact enc_pos w
  · rw [enc_len_ge (by omega), enc_len_ge (v := w) (by omega)]
    have := ih (v / 128) (by omega) (w / 128) (by omega)
    omega

/-- Two numbers whose encodings agree as far as both go are equal. -/
theorem enc_take {v w : Nat} (hv : v ≤ 18446744073709551615) (hw : w ≤ 18446744073709551615) (h : (enc v).take (min (enc v).length (enc w).length) = (enc w).take (min (enc v).length (enc w).length)) : v = w := by
  rcases Nat.le_total (enc v).length (enc w).length with hl | hl
  · rw [Nat.min_eq_left hl, List.take_length] at h
    refine enc_inj hv hw (r := (enc w).drop (enc v).length) (s := []) ?_
    rw [List.append_nil]
    have e := List.take_append_drop (enc v).length (enc w)
    rw [← h] at e
    exact e
  · rw [Nat.min_eq_right hl, List.take_length] at h
    refine enc_inj hv hw (r := []) (s := (enc v).drop (enc w).length) ?_
    rw [List.append_nil]
    have e := List.take_append_drop (enc w).length (enc v)
    rw [h] at e
    exact e.symm

theorem unzig_zig (n : Int) : unzig (Lib.zigzag n) = n := by
  unfold unzig Lib.zigzag
  split <;> split <;> omega
theorem zig_unzig (u : Nat) : Lib.zigzag (unzig u) = u := by
  unfold unzig Lib.zigzag
  split <;> split <;> omega
theorem unzig_bd {u : Nat} (h : u ≤ 18446744073709551615) : -9223372036854775808 ≤ unzig u ∧ unzig u ≤ 9223372036854775807 := by
  unfold unzig
  split <;> omega
theorem zig_bd {n : Int} (h0 : -9223372036854775808 ≤ n) (h1 : n ≤ 9223372036854775807) : Lib.zigzag n ≤ 18446744073709551615 := by
  have := Lib.zigzag_lt h0 h1
  omega

/-- Uint at a place where an encoding lies. -/
theorem uintRes_enc {v : Nat} (hv : v ≤ 18446744073709551615) (p r : List UInt8) : uintRes (p ++ (enc v ++ r)) (p.length : Int) = (v, (p.length : Int) + (enc v).length, 0) := by
  refine uintRes_ok (by simp) ?_
  rw [List.drop_left]
  exact decU_enc hv r
theorem intRes_enc {n : Int} (h0 : -9223372036854775808 ≤ n) (h1 : n ≤ 9223372036854775807) (p r : List UInt8) : intRes (p ++ (enc (Lib.zigzag n) ++ r)) (p.length : Int) = (n, (p.length : Int) + (enc (Lib.zigzag n)).length, 0) := by
  simp only [intRes, uintRes_enc (zig_bd h0 h1), if_true, unzig_zig]

theorem uintRes_enc0 {v : Nat} (hv : v ≤ 18446744073709551615) : uintRes (enc v) 0 = (v, ((enc v).length : Int), 0) := by
  have := uintRes_enc hv [] []
  simpa using this
theorem intRes_enc0 {v : Nat} (hv : v ≤ 18446744073709551615) : intRes (enc v) 0 = (unzig v, ((enc v).length : Int), 0) := by
  simp only [intRes, uintRes_enc0 hv, if_true]

/-- A proper beginning of an encoding: all its bytes go on. -/
theorem enc_front (v : Nat) : ∀ k, k < (enc v).length → ((enc v).take k).all (fun x => decide (128 ≤ x.toNat)) = true := by
  induction v using Nat.strongRecOn with
  | _ v ih =>
  intro k hk
  by_cases h : v < 128
  · rw [enc_len_lt h] at hk
    obtain rfl : k = 0 := by omega
    rfl
  · rw [enc_len_ge (by omega)] at hk
    rw [enc_ge (by omega)]
    cases k with
    | zero => rfl
    | succ k =>
      rw [List.take_succ_cons, List.all_cons, ih (v / 128) (by omega) k (by omega)]
      have hc : (UInt8.ofNat (v % 128 + 128)).toNat = v % 128 + 128 := by rw [UInt8.toNat_ofNat']; exact Nat.mod_eq_of_lt (by omega)
      rw [hc]
      simp

theorem text_short {s : List UInt8} (hs : s.length ≤ 18446744073709551615) {k : Nat} (hk : k < (enc s.length ++ s).length) : textRes ((enc s.length ++ s).take k) 0 s.length = ([], 0, 11) := by
  rw [List.length_append] at hk
  by_cases h : k < (enc s.length).length
  · have e : (enc s.length ++ s).take k = (enc s.length).take k := by rw [List.take_append_of_le_length (by omega)]
    have hu : uintRes ((enc s.length).take k) ((0 : Nat) : Int) = (0, 0, 11) := by
      refine uintRes_no (Nat.zero_le _) ?_ (by decide)
      rw [List.drop_zero]
      refine decU_open ?_
      simp only [openB, enc_front _ _ h, Bool.true_and, decide_eq_true_eq, List.length_take]
      have := enc_le10 hs
      omega
    rw [e]
    simp only [textRes, show (0 : Int) = ((0 : Nat) : Int) from rfl, hu]
    rw [if_pos (by decide)]
  · have e : (enc s.length ++ s).take k = enc s.length ++ s.take (k - (enc s.length).length) := by
      rw [List.take_append, List.take_of_length_le (by omega)]
    have hu := uintRes_enc (v := s.length) hs [] (s.take (k - (enc s.length).length))
    simp only [List.nil_append, List.length_nil] at hu
    rw [e]
    simp only [textRes, show (0 : Int) = ((0 : Nat) : Int) from rfl, hu]
    rw [if_neg (by simp), if_neg (by omega), if_pos (by rw [List.length_append, List.length_take]; omega)]

theorem text_back (p s r : List UInt8) (hs : s.length ≤ 18446744073709551615) (most : Int) :
    textRes (p ++ (enc s.length ++ (s ++ r))) p.length most = if max most 0 < (s.length : Int) then ([], 0, 13) else (s, (p.length : Int) + (enc s.length).length + s.length, 0) := by
  have hu := uintRes_enc (v := s.length) hs p (s ++ r)
  simp only [textRes, hu]
  rw [if_neg (by simp)]
  by_cases h : max most 0 < (s.length : Int)
  · rw [if_pos h, if_pos h]
  · rw [if_neg h, if_neg h, if_neg (by simp only [List.length_append]; omega)]
    have e : ((p.length : Int) + ((enc s.length).length : Int)).toNat = (p ++ enc s.length).length := by rw [List.length_append]; omega
    rw [e, ← List.append_assoc, List.drop_left, List.take_left]

theorem bool_back (p r : List UInt8) (v : Bool) : boolRes (p ++ (([if v then 1 else 0] : List UInt8) ++ r)) p.length = (v, (p.length : Int) + 1, 0) := by
  unfold boolRes
  rw [if_neg (by simp only [List.length_append]; omega), Int.toNat_natCast, List.getElem?_append_right (Nat.le_refl _)]
  cases v <;> simp

/-- A number that was decoded is encoded as the bytes that it was decoded from. -/
theorem dec_bytes {l : List UInt8} {k v j : Nat} (hd : decU (l.drop k) = (v, j, 0)) : l.take k ++ enc v = l.take (k + j) := by
  obtain ⟨hj, r, hr⟩ := decU_is hd
  rw [List.take_add, hr, hj, List.take_left]

theorem uintRes_cases_in (l : List UInt8) (k : Nat) (hk : k ≤ l.length) :
    (∃ v j : Nat, uintRes l (k : Int) = (v, (k : Int) + j, 0) ∧ v ≤ 18446744073709551615 ∧ 0 < j ∧ k + j ≤ l.length ∧ decU (l.drop k) = (v, j, 0)) ∨
      uintRes l (k : Int) = (0, 0, 11) ∨ uintRes l (k : Int) = (0, 0, 12) := by
  rcases decU_spec (l.drop k) with ⟨v, j, hd, h1, h2, h3, h4⟩ | ⟨e, hd, he⟩
  · rw [List.length_drop] at h3
    exact .inl ⟨v, j, uintRes_ok hk hd, h1, h2, by omega, hd⟩
  · right
    rcases he with rfl | rfl
    · exact .inl (uintRes_no hk hd (by decide))
    · exact .inr (uintRes_no hk hd (by decide))

end Go.Proofs.Ytpiodpljiklfkaa
/-
  Plain laws of deltas: ops as data, atoms, the normal form.
-/
namespace Go.Proofs.Ytpiodpljiklfkaa

/-- An op as data. -/
structure Dp where
  f : Int
  z : Int
  l : List UInt8
deriving DecidableEq
def Dp.copies (o : Dp) : Bool := decide (1 ≤ o.z) && o.l.isEmpty
def Dp.literal (o : Dp) : Bool := decide (o.z = 0) && decide (o.f = 0) && !o.l.isEmpty
def Dp.size (o : Dp) : Nat := if o.copies then o.z.toNat else o.l.length
/-- What Check answers behind ops of n bytes. -/
def ckF (base : Int) : Nat → List Dp → Int × Int
  | n, [] => (n, 0)
  | n, o :: os =>
    if o.copies = false ∧ o.literal = false then (0, 260)
    else if o.copies = true ∧ (o.f < 0 ∨ base < o.f ∨ base - o.f < o.z) then (0, 261)
    else if 1048576 < n + o.size then (0, 262) else ckF base (n + o.size) os
def ckRes (base : Int) (os : List Dp) : Int × Int := if base < 0 ∨ 1048576 < base then (0, 262) else if 4096 < os.length then (0, 263) else ckF base 0 os
/-- A right op on a base of that size. -/
def Dp.ok (base : Int) (o : Dp) : Prop := (o.copies = true ∧ 0 ≤ o.f ∧ o.f + o.z ≤ base) ∨ o.literal = true
def sizeD (os : List Dp) : Nat := (os.map Dp.size).sum
theorem Dp.copies_not_literal {o : Dp} (h : o.copies = true) : o.literal = false := by
  simp only [Dp.copies, Bool.and_eq_true, decide_eq_true_eq] at h
  unfold Dp.literal
  rw [h.2]; simp
theorem ckF_ok {base : Int} (hb : base ≤ 1048576) : ∀ (os : List Dp) (n : Nat) (r : Int), ckF base n os = (r, 0) → (∀ o ∈ os, o.ok base) ∧ r = ((n + sizeD os : Nat) : Int) ∧ (os = [] ∨ n + sizeD os ≤ 1048576)
  | [], n, r, h => by
    simp only [ckF, Prod.mk.injEq] at h
    exact ⟨(fun o ho => by cases ho), by rw [← h.1]; simp [sizeD], .inl rfl⟩
  | o :: os, n, r, h => by
    unfold ckF at h
    split at h
    · simp at h
    · rename_i h1
      split at h
      · simp at h
      · rename_i h2
        split at h
        · simp at h
        · rename_i h3
          obtain ⟨g1, g2, g3⟩ := ckF_ok hb os _ r h
          have hs : sizeD (o :: os) = o.size + sizeD os := by simp [sizeD]
          refine ⟨fun x hx => ?_, by rw [g2, hs, Nat.add_assoc], .inr ?_⟩
          · rcases List.mem_cons.1 hx with rfl | hx
            · by_cases hc : x.copies = true
              · exact .inl ⟨hc, by
                  have h4 : ¬ (x.f < 0 ∨ base < x.f ∨ base - x.f < x.z) := fun h => h2 ⟨hc, h⟩
                  omega⟩
              · exact .inr (by
                  have hc' : x.copies = false := by simpa using hc
                  have : ¬ x.literal = false := fun h => h1 ⟨hc', h⟩
                  simpa using this)
            · exact g1 x hx
          · rcases g3 with rfl | g3
            · simp [sizeD]; omega
            · omega
theorem ckF_mk {base : Int} (hb : base ≤ 1048576) : ∀ (os : List Dp) (n : Nat), (∀ o ∈ os, o.ok base) → n + sizeD os ≤ 1048576 → ckF base n os = (((n + sizeD os : Nat) : Int), 0)
  | [], n, _, _ => by simp [ckF, sizeD]
  | o :: os, n, h, hn => by
    have hs : sizeD (o :: os) = o.size + sizeD os := by simp [sizeD]
    have ho := h o (List.mem_cons_self ..)
    unfold ckF
    have h1 : ¬ (o.copies = false ∧ o.literal = false) := by
      rcases ho with h | h
      · intro hh; rw [h.1] at hh; cases hh.1
      · intro hh; rw [h] at hh; cases hh.2
    have h2 : ¬ (o.copies = true ∧ (o.f < 0 ∨ base < o.f ∨ base - o.f < o.z)) := by
      rintro ⟨hc, hh⟩
      rcases ho with h | h
      · have hz : 1 ≤ o.z := by simp only [Dp.copies, Bool.and_eq_true, decide_eq_true_eq] at hc; exact hc.1
        omega
      · rw [Dp.copies_not_literal hc] at h; cases h
    rw [if_neg h1, if_neg h2, if_neg (by omega), ckF_mk hb os _ (fun x hx => h x (List.mem_cons_of_mem _ hx)) (by omega), hs, Nat.add_assoc]
theorem ckF_err {base : Int} : ∀ (os : List Dp) (n : Nat), (ckF base n os).2 ≠ 0 → (ckF base n os).1 = 0
  | [], n, h => by simp [ckF] at h
  | o :: os, n, h => by
    unfold ckF at h ⊢
    split
    · rfl
    · rename_i h1
      rw [if_neg h1] at h
      split
      · rfl
      · rename_i h2
        rw [if_neg h2] at h
        split
        · rfl
        · rename_i h3
          rw [if_neg h3] at h
          exact ckF_err os _ h
theorem ckRes_err {base : Int} {os : List Dp} {n e : Int} (h : ckRes base os = (n, e)) (he : e ≠ 0) : n = 0 := by
  unfold ckRes at h
  split at h
  · simp only [Prod.mk.injEq] at h; exact h.1.symm
  · split at h
    · simp only [Prod.mk.injEq] at h; exact h.1.symm
    · have := ckF_err os 0 (base := base) (by rw [h]; exact he)
      rw [h] at this; exact this
theorem ckRes_ok {base : Int} {os : List Dp} {n : Int} (h : ckRes base os = (n, 0)) : (∀ o ∈ os, o.ok base) ∧ n = (sizeD os : Int) ∧ sizeD os ≤ 1048576 ∧ 0 ≤ base ∧ base ≤ 1048576 ∧ os.length ≤ 4096 := by
  unfold ckRes at h
  split at h
  · simp at h
  · split at h
    · simp at h
    · obtain ⟨h1, h2, h3⟩ := ckF_ok (by omega) os 0 n h
      rw [Nat.zero_add] at h2 h3
      refine ⟨h1, h2, ?_, by omega, by omega, by omega⟩
      rcases h3 with rfl | h3
      · simp [sizeD]
      · exact h3
theorem ckRes_mk {base : Int} {os : List Dp} (h0 : 0 ≤ base) (hb : base ≤ 1048576) (h : ∀ o ∈ os, o.ok base) (hn : sizeD os ≤ 1048576) (hl : os.length ≤ 4096) : ckRes base os = ((sizeD os : Int), 0) := by
  unfold ckRes
  rw [if_neg (by omega), if_neg (by omega), ckF_mk hb os 0 h (by omega), Nat.zero_add]

/-! ### What a delta makes -/
def Dp.app (b : List UInt8) (o : Dp) : List UInt8 := if o.copies then (b.drop o.f.toNat).take o.z.toNat else o.l
def appD (b : List UInt8) (os : List Dp) : List UInt8 := os.flatMap (Dp.app b)
def apRes (b : List UInt8) (os : List Dp) : List UInt8 × Int := if (ckRes b.length os).2 = 0 then (appD b os, 0) else ([], (ckRes b.length os).2)

/-! ### Atoms: where each byte comes from -/
inductive Atom where
  | src (i : Nat)
  | lit (x : UInt8)
deriving DecidableEq
def srcs (f : Nat) : Nat → List Atom
  | 0 => []
  | n + 1 => .src f :: srcs (f + 1) n
def Dp.atoms (o : Dp) : List Atom := if o.copies then srcs o.f.toNat o.z.toNat else o.l.map .lit
def atomsD (os : List Dp) : List Atom := os.flatMap Dp.atoms
theorem srcs_length : ∀ (n f : Nat), (srcs f n).length = n
  | 0, _ => rfl
  | n + 1, f => by rw [srcs, List.length_cons, srcs_length n]
theorem srcs_get : ∀ (n f i : Nat), i < n → (srcs f n)[i]? = some (.src (f + i))
  | 0, _, _, h => by omega
  | n + 1, f, 0, _ => rfl
  | n + 1, f, i + 1, h => by
    rw [srcs, List.getElem?_cons_succ, srcs_get n (f + 1) i (by omega)]
    congr 2; omega
theorem srcs_add : ∀ (m n f : Nat), srcs f (m + n) = srcs f m ++ srcs (f + m) n
  | 0, n, f => by simp [srcs]
  | m + 1, n, f => by
    rw [show m + 1 + n = (m + n) + 1 by omega, srcs, srcs, srcs_add m n (f + 1), List.cons_append]
    congr 2; congr 1; omega
theorem atoms_length (o : Dp) : o.atoms.length = o.size := by
  unfold Dp.atoms Dp.size
  split
  · exact srcs_length _ _
  · exact List.length_map ..
theorem atomsD_length (os : List Dp) : (atomsD os).length = sizeD os := by
  induction os with
  | nil => rfl
  | cons o os ih =>
    have h1 : atomsD (o :: os) = o.atoms ++ atomsD os := by simp [atomsD]
    have h2 : sizeD (o :: os) = o.size + sizeD os := by simp [sizeD]
    rw [h1, h2, List.length_append, ih, atoms_length]
/-- One more atom behind a normal delta. -/
def addA (acc : List Dp) (x : Atom) : List Dp :=
  match acc.getLast?, x with
  | some y, .src i => if 0 < y.z ∧ y.f + y.z = i then acc.dropLast ++ [{ y with z := y.z + 1 }] else acc ++ [⟨i, 1, []⟩]
  | some y, .lit c => if y.z = 0 then acc.dropLast ++ [{ y with l := y.l ++ [c] }] else acc ++ [⟨0, 0, [c]⟩]
  | none, .src i => [⟨i, 1, []⟩]
  | none, .lit c => [⟨0, 0, [c]⟩]
def norm (as : List Atom) : List Dp := as.foldl addA []
/-- One more op behind a normal delta, as the program adds it. -/
def addD (acc : List Dp) (o : Dp) : List Dp :=
  match acc.getLast? with
  | some y =>
    if o.copies then (if 0 < y.z ∧ y.f + y.z = o.f then acc.dropLast ++ [{ y with z := y.z + o.z }] else acc ++ [⟨o.f, o.z, []⟩])
    else (if y.z = 0 then acc.dropLast ++ [{ y with l := y.l ++ o.l }] else acc ++ [⟨0, 0, o.l⟩])
  | none => if o.copies then [⟨o.f, o.z, []⟩] else [⟨0, 0, o.l⟩]
theorem last_snoc (A : List Dp) (y : Dp) : (A ++ [y]).getLast? = some y := by simp
theorem addA_srcs (A : List Dp) : ∀ (n f : Nat) (y : Dp), 0 < y.z → y.f + y.z = (f : Int) → (srcs f n).foldl addA (A ++ [y]) = A ++ [{ y with z := y.z + n }]
  | 0, f, y, _, _ => by simp [srcs]
  | n + 1, f, y, h1, h2 => by
    rw [srcs, List.foldl_cons]
    have h3 : addA (A ++ [y]) (.src f) = A ++ [{ y with z := y.z + 1 }] := by
      unfold addA
      rw [last_snoc]
      simp only [h1, h2, and_self, if_true, List.dropLast_concat]
    rw [h3, addA_srcs A n (f + 1) _ (by show 0 < y.z + 1; omega) (by show y.f + (y.z + 1) = _; omega)]
    congr 3
    show y.z + 1 + (n : Int) = y.z + ((n + 1 : Nat) : Int)
    omega
theorem addA_lits (A : List Dp) : ∀ (l : List UInt8) (y : Dp), y.z = 0 → (l.map Atom.lit).foldl addA (A ++ [y]) = A ++ [{ y with l := y.l ++ l }]
  | [], y, _ => by simp
  | c :: l, y, h => by
    rw [List.map_cons, List.foldl_cons]
    have h3 : addA (A ++ [y]) (.lit c) = A ++ [{ y with l := y.l ++ [c] }] := by
      unfold addA
      rw [last_snoc]
      simp only [h, if_true, List.dropLast_concat]
    rw [h3, addA_lits A l { y with l := y.l ++ [c] } h]
    simp
theorem addD_atoms {acc : List Dp} {o : Dp} (ho : (o.copies = true ∧ 0 ≤ o.f) ∨ o.literal = true) : addD acc o = o.atoms.foldl addA acc := by
  by_cases hc : o.copies = true
  · have h0 : 0 ≤ o.f := by
      rcases ho with h | h
      · exact h.2
      · rw [Dp.copies_not_literal hc] at h; cases h
    have hz : 1 ≤ o.z := by simp only [Dp.copies, Bool.and_eq_true, decide_eq_true_eq] at hc; exact hc.1
    obtain ⟨f, hf⟩ := Int.eq_ofNat_of_zero_le h0
    obtain ⟨n, hn⟩ : ∃ n : Nat, o.z = ((n + 1 : Nat) : Int) := ⟨o.z.toNat - 1, by omega⟩
    have hat : o.atoms = srcs f (n + 1) := by unfold Dp.atoms; rw [if_pos hc, hf, hn]; rfl
    rw [hat, srcs, List.foldl_cons]
    rcases List.eq_nil_or_concat acc with rfl | ⟨A, y, rfl⟩
    · have h1 : addA [] (.src f) = [] ++ [⟨f, 1, []⟩] := rfl
      rw [h1, addA_srcs [] n (f + 1) _ (by show (0 : Int) < 1; decide) (by show (f : Int) + 1 = _; omega)]
      unfold addD
      simp only [List.getLast?_nil, hc, if_true, List.nil_append]
      rw [hf, hn]
      congr 2
      show ((n + 1 : Nat) : Int) = 1 + (n : Int)
      omega
    · rw [List.concat_eq_append]
      unfold addD
      rw [last_snoc]
      simp only [hc, if_true, List.dropLast_concat]
      by_cases hj : 0 < y.z ∧ y.f + y.z = o.f
      · have h1 : addA (A ++ [y]) (.src f) = A ++ [{ y with z := y.z + 1 }] := by
          unfold addA
          rw [last_snoc]
          simp only [List.dropLast_concat]
          rw [if_pos (by rw [← hf]; exact hj)]
        rw [if_pos hj, h1, addA_srcs A n (f + 1) _ (by show 0 < y.z + 1; omega) (by show y.f + (y.z + 1) = _; omega)]
        congr 3
        show y.z + o.z = y.z + 1 + (n : Int)
        omega
      · have h1 : addA (A ++ [y]) (.src f) = (A ++ [y]) ++ [⟨f, 1, []⟩] := by
          unfold addA
          rw [last_snoc]
          simp only
          rw [if_neg (by rw [← hf]; exact hj)]
        rw [if_neg hj, h1, addA_srcs (A ++ [y]) n (f + 1) _ (by show (0 : Int) < 1; decide) (by show (f : Int) + 1 = _; omega), hf, hn]
        congr 2
        show Dp.mk (f : Int) ((n + 1 : Nat) : Int) [] = ⟨f, 1 + (n : Int), []⟩
        congr 1
        omega
  · have hc' : o.copies = false := by simpa using hc
    have hl : o.literal = true := by
      rcases ho with h | h
      · exact absurd h.1 hc
      · exact h
    have hne : o.l ≠ [] := by
      simp only [Dp.literal, Bool.and_eq_true, decide_eq_true_eq, Bool.not_eq_true'] at hl
      intro h; rw [h] at hl; simp at hl
    have hat : o.atoms = o.l.map .lit := by unfold Dp.atoms; rw [if_neg hc]
    obtain ⟨c, l, hcl⟩ : ∃ c l, o.l = c :: l := by
      cases h : o.l with
      | nil => exact absurd h hne
      | cons c l => exact ⟨c, l, rfl⟩
    rw [hat, hcl, List.map_cons, List.foldl_cons]
    rcases List.eq_nil_or_concat acc with rfl | ⟨A, y, rfl⟩
    · have h1 : addA [] (.lit c) = [] ++ [⟨0, 0, [c]⟩] := rfl
      rw [h1, addA_lits [] l _ rfl]
      unfold addD
      simp only [List.getLast?_nil, hc', List.nil_append, hcl]
      rfl
    · rw [List.concat_eq_append]
      unfold addD
      rw [last_snoc]
      simp only [hc', List.dropLast_concat, hcl]
      by_cases hj : y.z = 0
      · have h1 : addA (A ++ [y]) (.lit c) = A ++ [{ y with l := y.l ++ [c] }] := by
          unfold addA
          rw [last_snoc]
          simp only [List.dropLast_concat]
          rw [if_pos hj]
        rw [h1, addA_lits A l { y with l := y.l ++ [c] } hj]
        simp [hj]
      · have h1 : addA (A ++ [y]) (.lit c) = (A ++ [y]) ++ [⟨0, 0, [c]⟩] := by
          unfold addA
          rw [last_snoc]
          simp only
          rw [if_neg hj]
        rw [h1, addA_lits (A ++ [y]) l _ rfl]
        simp [hj]
end Go.Proofs.Ytpiodpljiklfkaa
/-
  Plain laws of deltas: the normal form is one for each row of atoms; composing.
-/
namespace Go.Proofs.Ytpiodpljiklfkaa

def Dp.fine (o : Dp) : Prop := (o.copies = true ∧ 0 ≤ o.f) ∨ o.literal = true
theorem Dp.ok.fine {b : Int} {o : Dp} (h : o.ok b) : o.fine := h.imp (fun h => ⟨h.1, h.2.1⟩) id
theorem foldl_addD : ∀ (os acc : List Dp), (∀ o ∈ os, o.fine) → os.foldl addD acc = (atomsD os).foldl addA acc
  | [], acc, _ => rfl
  | o :: os, acc, h => by
    rw [List.foldl_cons, addD_atoms (h o (List.mem_cons_self ..)), foldl_addD os _ (fun x hx => h x (List.mem_cons_of_mem _ hx)), show atomsD (o :: os) = o.atoms ++ atomsD os by simp [atomsD], List.foldl_append]
def normD (os : List Dp) : List Dp := os.foldl addD []
theorem normD_eq {os : List Dp} (h : ∀ o ∈ os, o.fine) : normD os = norm (atomsD os) := foldl_addD os [] h

/-- An op that stands in a normal delta. -/
def Dp.nice (o : Dp) : Prop := (1 ≤ o.z ∧ 0 ≤ o.f ∧ o.l = []) ∨ (o.z = 0 ∧ o.f = 0 ∧ o.l ≠ [])
theorem Dp.nice.fine {o : Dp} (h : o.nice) : o.fine := by
  rcases h with ⟨h1, h2, h3⟩ | ⟨h1, h2, h3⟩
  · exact .inl ⟨by simp [Dp.copies, h1, h3], h2⟩
  · exact .inr (by cases hl : o.l with
      | nil => exact absurd hl h3
      | cons c l => simp [Dp.literal, h1, h2, hl])
theorem Dp.fine.nice {o : Dp} (h : o.fine) : o.nice := by
  rcases h with ⟨h1, h2⟩ | h
  · simp only [Dp.copies, Bool.and_eq_true, decide_eq_true_eq, List.isEmpty_iff] at h1
    exact .inl ⟨h1.1, h2, h1.2⟩
  · simp only [Dp.literal, Bool.and_eq_true, decide_eq_true_eq, Bool.not_eq_true', List.isEmpty_eq_false_iff] at h
    exact .inr ⟨h.1.1, h.1.2, h.2⟩
/-- Neighbours that are not joined. -/
def apartD (x y : Dp) : Prop := ¬ (x.z = 0 ∧ y.z = 0) ∧ ¬ (0 < x.z ∧ 0 < y.z ∧ x.f + x.z = y.f)
def NormalD : List Dp → Prop
  | [] => True
  | [_] => True
  | x :: y :: os => apartD x y ∧ NormalD (y :: os)
theorem NormalD.snoc {y : Dp} : ∀ {A : List Dp} {x : Dp}, NormalD (A ++ [x]) → apartD x y → NormalD (A ++ [x] ++ [y])
  | [], _, _, h => ⟨h, trivial⟩
  | [_], _, h, h' => ⟨h.1, h', trivial⟩
  | _ :: b :: A, _, h, h' => ⟨h.1, NormalD.snoc (A := b :: A) h.2 h'⟩
theorem NormalD.last {x x' : Dp} (hf : ∀ a, apartD a x → apartD a x') : ∀ {A : List Dp}, NormalD (A ++ [x]) → NormalD (A ++ [x'])
  | [], _ => trivial
  | [a], h => ⟨hf a h.1, trivial⟩
  | _ :: b :: A, h => ⟨h.1, NormalD.last hf (A := b :: A) h.2⟩
theorem atomsD_snoc (A : List Dp) (y : Dp) : atomsD (A ++ [y]) = atomsD A ++ y.atoms := by simp [atomsD]
theorem atoms_copy (f n : Nat) (o : Dp) (hf : o.f = f) (hz : o.z = n) (hn : 0 < n) (hl : o.l = []) : o.atoms = srcs f n := by
  unfold Dp.atoms
  rw [if_pos (by simp [Dp.copies, hl]; omega), hf, hz]; rfl
theorem atoms_lit (o : Dp) (hz : o.z = 0) : o.atoms = o.l.map .lit := by
  unfold Dp.atoms
  rw [if_neg (by simp [Dp.copies]; omega)]
/-- Normal ops, each right in itself. -/
def Nm (os : List Dp) : Prop := NormalD os ∧ ∀ o ∈ os, o.nice
theorem addA_nm {acc : List Dp} (h : Nm acc) (x : Atom) : Nm (addA acc x) ∧ atomsD (addA acc x) = atomsD acc ++ [x] := by
  rcases List.eq_nil_or_concat acc with rfl | ⟨A, y, rfl⟩
  · cases x with
    | src i => exact ⟨⟨trivial, fun o ho => by
        obtain rfl : o = ⟨i, 1, []⟩ := by simpa [addA] using ho
        exact .inl ⟨by show (1 : Int) ≤ 1; omega, by show (0 : Int) ≤ i; omega, rfl⟩⟩, by
        show atomsD [⟨i, 1, []⟩] = [Atom.src i]
        rw [show ([⟨i, 1, []⟩] : List Dp) = [] ++ [⟨i, 1, []⟩] from rfl, atomsD_snoc, atoms_copy i 1 _ rfl rfl (by omega) rfl]; rfl⟩
    | lit c => exact ⟨⟨trivial, fun o ho => by
        obtain rfl : o = ⟨0, 0, [c]⟩ := by simpa [addA] using ho
        exact .inr ⟨rfl, rfl, by simp⟩⟩, by
        show atomsD [⟨0, 0, [c]⟩] = [Atom.lit c]
        rw [show ([⟨0, 0, [c]⟩] : List Dp) = [] ++ [⟨0, 0, [c]⟩] from rfl, atomsD_snoc, atoms_lit _ rfl]; rfl⟩
  · rw [List.concat_eq_append] at h ⊢
    obtain ⟨hn, hi⟩ := h
    have hy := hi y (by simp)
    have hA : ∀ o ∈ A, o.nice := fun o ho => hi o (by simp [ho])
    unfold addA
    rw [last_snoc]
    cases x with
    | src i =>
      simp only [List.dropLast_concat]
      split
      · rename_i hj
        have hyc : 0 ≤ y.f ∧ y.l = [] := by
          rcases hy with h | h
          · exact ⟨h.2.1, h.2.2⟩
          · omega
        refine ⟨⟨NormalD.last (fun a ha => ⟨by show ¬ (a.z = 0 ∧ y.z + 1 = 0); omega, by show ¬ (0 < a.z ∧ 0 < y.z + 1 ∧ a.f + a.z = y.f); have := ha.2; omega⟩) hn, fun o ho => ?_⟩, ?_⟩
        · rcases List.mem_append.1 ho with ho | ho
          · exact hA o ho
          · obtain rfl : o = { y with z := y.z + 1 } := by simpa using ho
            exact .inl ⟨by show 1 ≤ y.z + 1; omega, hyc.1, hyc.2⟩
        · obtain ⟨f, hf⟩ := Int.eq_ofNat_of_zero_le hyc.1
          obtain ⟨n, hz⟩ := Int.eq_ofNat_of_zero_le (show 0 ≤ y.z by omega)
          rw [atomsD_snoc, atomsD_snoc, atoms_copy f n y hf hz (by omega) hyc.2, atoms_copy f (n + 1) { y with z := y.z + 1 } hf (by show y.z + 1 = _; omega) (by omega) hyc.2, srcs_add n 1 f, List.append_assoc]
          congr 2
          show [Atom.src (f + n)] = [Atom.src i]
          congr 2
          omega
      · rename_i hj
        refine ⟨⟨hn.snoc ⟨by show ¬ (y.z = 0 ∧ (1 : Int) = 0); omega, by show ¬ (0 < y.z ∧ (0 : Int) < 1 ∧ y.f + y.z = i); omega⟩, fun o ho => ?_⟩, ?_⟩
        · rcases List.mem_append.1 ho with ho | ho
          · exact hi o ho
          · obtain rfl : o = ⟨i, 1, []⟩ := by simpa using ho
            exact .inl ⟨by show (1 : Int) ≤ 1; omega, by show (0 : Int) ≤ i; omega, rfl⟩
        · rw [atomsD_snoc (A ++ [y]), atoms_copy i 1 _ rfl rfl (by omega) rfl]; rfl
    | lit c =>
      simp only [List.dropLast_concat]
      split
      · rename_i hj
        refine ⟨⟨NormalD.last (x := y) (x' := { y with l := y.l ++ [c] }) (fun a ha => ha) hn, fun o ho => ?_⟩, ?_⟩
        · rcases List.mem_append.1 ho with ho | ho
          · exact hA o ho
          · obtain rfl : o = { y with l := y.l ++ [c] } := by simpa using ho
            rcases hy with h | h
            · omega
            · exact .inr ⟨hj, h.2.1, by show y.l ++ [c] ≠ []; simp⟩
        · rw [atomsD_snoc, atomsD_snoc, atoms_lit y hj, atoms_lit { y with l := y.l ++ [c] } hj, List.append_assoc]
          congr 1
          show (y.l ++ [c]).map Atom.lit = _
          rw [List.map_append]; rfl
      · rename_i hj
        refine ⟨⟨hn.snoc ⟨by show ¬ (y.z = 0 ∧ (0 : Int) = 0); omega, by show ¬ (0 < y.z ∧ (0 : Int) < 0 ∧ _); omega⟩, fun o ho => ?_⟩, ?_⟩
        · rcases List.mem_append.1 ho with ho | ho
          · exact hi o ho
          · obtain rfl : o = ⟨0, 0, [c]⟩ := by simpa using ho
            exact .inr ⟨rfl, rfl, by simp⟩
        · rw [atomsD_snoc (A ++ [y]), atoms_lit _ rfl]; rfl
theorem foldl_nm : ∀ (as : List Atom) (acc : List Dp), Nm acc → Nm (as.foldl addA acc) ∧ atomsD (as.foldl addA acc) = atomsD acc ++ as
  | [], acc, h => ⟨h, by simp⟩
  | x :: as, acc, h => by
    obtain ⟨h1, h2⟩ := addA_nm h x
    obtain ⟨h3, h4⟩ := foldl_nm as _ h1
    exact ⟨h3, by rw [List.foldl_cons, h4, h2]; simp⟩
theorem norm_nm (as : List Atom) : Nm (norm as) := (foldl_nm as [] ⟨trivial, fun o ho => by cases ho⟩).1
theorem atoms_norm (as : List Atom) : atomsD (norm as) = as := by
  have := (foldl_nm as [] ⟨trivial, fun o ho => by cases ho⟩).2
  simpa [atomsD, norm] using this
theorem norm_norm (as : List Atom) : normD (norm as) = norm as := by rw [normD_eq (fun o ho => ((norm_nm as).2 o ho).fine), atoms_norm]
/-- The number of ops does not fall. -/
theorem addA_length (acc : List Dp) (x : Atom) : acc.length ≤ (addA acc x).length ∧ (addA acc x).length ≤ acc.length + 1 := by
  rcases List.eq_nil_or_concat acc with rfl | ⟨A, y, rfl⟩
  · cases x <;> simp [addA]
  · rw [List.concat_eq_append]
    unfold addA
    rw [last_snoc]
    cases x <;> simp only [List.dropLast_concat] <;> split <;> simp
theorem foldl_length : ∀ (as : List Atom) (acc : List Dp), acc.length ≤ (as.foldl addA acc).length
  | [], _ => Nat.le_refl _
  | x :: as, acc => Nat.le_trans (addA_length acc x).1 (foldl_length as _)
theorem addD_length (acc : List Dp) (o : Dp) : acc.length ≤ (addD acc o).length ∧ (addD acc o).length ≤ acc.length + 1 := by
  rcases List.eq_nil_or_concat acc with rfl | ⟨A, y, rfl⟩
  · unfold addD; simp only [List.getLast?_nil]; split <;> simp
  · rw [List.concat_eq_append]
    unfold addD
    rw [last_snoc]
    simp only [List.dropLast_concat]
    split <;> split <;> simp

/-! ### What atoms read -/
def Atom.read (b : List UInt8) : Atom → UInt8
  | .src i => b[i]?.getD 0
  | .lit x => x
def Atom.below (n : Nat) : Atom → Prop
  | .src i => i < n
  | .lit _ => True
theorem srcs_read (b : List UInt8) : ∀ (n f : Nat), f + n ≤ b.length → (srcs f n).map (Atom.read b) = (b.drop f).take n
  | 0, _, _ => by simp [srcs]
  | n + 1, f, h => by
    have hf : f < b.length := by omega
    rw [srcs, List.map_cons, srcs_read b n (f + 1) (by omega), List.drop_eq_getElem_cons hf, List.take_succ_cons]
    congr 1
    show b[f]?.getD 0 = _
    rw [List.getElem?_eq_getElem hf]; rfl
theorem atoms_read {b : List UInt8} {o : Dp} (h : o.ok b.length) : o.atoms.map (Atom.read b) = o.app b := by
  unfold Dp.atoms Dp.app
  split
  · rename_i hc
    have hz : 1 ≤ o.z := by simp only [Dp.copies, Bool.and_eq_true, decide_eq_true_eq] at hc; exact hc.1
    have h' : 0 ≤ o.f ∧ o.f + o.z ≤ b.length := by
      rcases h with h | h
      · exact h.2
      · rw [Dp.copies_not_literal hc] at h; cases h
    exact srcs_read b _ _ (by omega)
  · rw [List.map_map]
    exact (List.map_congr_left fun x _ => rfl).trans (List.map_id _)
theorem atomsD_read {b : List UInt8} : ∀ {os : List Dp}, (∀ o ∈ os, o.ok b.length) → (atomsD os).map (Atom.read b) = appD b os
  | [], _ => rfl
  | o :: os, h => by
    rw [show atomsD (o :: os) = o.atoms ++ atomsD os by simp [atomsD], List.map_append, atoms_read (h o (List.mem_cons_self ..)), atomsD_read (fun x hx => h x (List.mem_cons_of_mem _ hx))]
    simp [appD]
theorem srcs_below : ∀ (n f m : Nat), f + n ≤ m → ∀ x ∈ srcs f n, x.below m
  | 0, _, _, _, x, hx => by cases hx
  | n + 1, f, m, h, x, hx => by
    rcases List.mem_cons.1 hx with rfl | hx
    · show f < m; omega
    · exact srcs_below n (f + 1) m (by omega) x hx
theorem atoms_below {n : Nat} {o : Dp} (h : o.ok n) : ∀ x ∈ o.atoms, x.below n := by
  intro x hx
  unfold Dp.atoms at hx
  split at hx
  · rename_i hc
    have hz : 1 ≤ o.z := by simp only [Dp.copies, Bool.and_eq_true, decide_eq_true_eq] at hc; exact hc.1
    have h' : 0 ≤ o.f ∧ o.f + o.z ≤ n := by
      rcases h with h | h
      · exact h.2
      · rw [Dp.copies_not_literal hc] at h; cases h
    exact srcs_below _ _ n (by omega) x hx
  · obtain ⟨c, -, rfl⟩ := List.mem_map.1 hx
    trivial
theorem atomsD_below {n : Nat} {os : List Dp} (h : ∀ o ∈ os, o.ok n) : ∀ x ∈ atomsD os, x.below n := fun x hx => by
  obtain ⟨o, ho, hx⟩ := List.mem_flatMap.1 hx
  exact atoms_below (h o ho) x hx
/-- A normal op whose atoms lie in the base is right. -/
theorem ok_of_below {n : Nat} {o : Dp} (h : o.nice) (hb : ∀ x ∈ o.atoms, x.below n) : o.ok n := by
  rcases h with ⟨h1, h2, h3⟩ | h
  · refine .inl ⟨by simp [Dp.copies, h1, h3], h2, ?_⟩
    obtain ⟨f, hf⟩ := Int.eq_ofNat_of_zero_le h2
    obtain ⟨m, hm⟩ : ∃ m : Nat, o.z = ((m + 1 : Nat) : Int) := ⟨o.z.toNat - 1, by omega⟩
    have h4 : Atom.src (f + m) ∈ o.atoms := by
      rw [atoms_copy f (m + 1) o hf hm (by omega) h3]
      exact List.mem_of_getElem? (srcs_get (m + 1) f m (by omega))
    have h5 : f + m < n := hb _ h4
    omega
  · have h' : o.nice := .inr h
    rcases h'.fine with h6 | h6
    · simp only [Dp.copies, Bool.and_eq_true, decide_eq_true_eq] at h6; omega
    · exact .inr h6
theorem norm_ok {n : Nat} {as : List Atom} (h : ∀ x ∈ as, x.below n) : ∀ o ∈ norm as, o.ok n := fun o ho =>
  ok_of_below ((norm_nm as).2 o ho) fun x hx => h x (by
    rw [← atoms_norm as]
    exact List.mem_flatMap.2 ⟨o, ho, hx⟩)

/-! ### Composing -/
def Atom.subst (A : List Atom) : Atom → Atom
  | .src i => A[i]?.getD (.src 0)
  | .lit x => .lit x
def compA (A B : List Atom) : List Atom := B.map (Atom.subst A)
theorem subst_below {A : List Atom} {n : Nat} {x : Atom} (hA : ∀ y ∈ A, y.below n) (hx : x.below A.length) : (x.subst A).below n := by
  cases x with
  | lit c => trivial
  | src i =>
    have h : i < A.length := hx
    show (A[i]?.getD (.src 0)).below n
    rw [List.getElem?_eq_getElem h]
    exact hA _ (List.getElem_mem h)
theorem compA_below {A B : List Atom} {n : Nat} (hA : ∀ y ∈ A, y.below n) (hB : ∀ y ∈ B, y.below A.length) : ∀ y ∈ compA A B, y.below n := fun y hy => by
  obtain ⟨x, hx, rfl⟩ := List.mem_map.1 hy
  exact subst_below hA (hB x hx)
theorem subst_read {A : List Atom} {b : List UInt8} {x : Atom} (hx : x.below A.length) : (x.subst A).read b = x.read (A.map (Atom.read b)) := by
  cases x with
  | lit c => rfl
  | src i =>
    have h : i < A.length := hx
    show (A[i]?.getD (.src 0)).read b = (A.map (Atom.read b))[i]?.getD 0
    rw [List.getElem?_map, List.getElem?_eq_getElem h]; rfl
theorem compA_read {A B : List Atom} {b : List UInt8} (hB : ∀ y ∈ B, y.below A.length) : (compA A B).map (Atom.read b) = B.map (Atom.read (A.map (Atom.read b))) := by
  unfold compA
  rw [List.map_map]
  exact List.map_congr_left fun x hx => subst_read (hB x hx)
theorem compA_assoc {A B C : List Atom} (hC : ∀ y ∈ C, y.below B.length) : compA (compA A B) C = compA A (compA B C) := by
  unfold compA
  rw [List.map_map]
  refine List.map_congr_left fun x hx => ?_
  cases x with
  | lit c => rfl
  | src i =>
    have h : i < B.length := hC _ hx
    show (B.map (Atom.subst A))[i]?.getD (.src 0) = (B[i]?.getD (.src 0)).subst A
    rw [List.getElem?_map, List.getElem?_eq_getElem h]; rfl
theorem srcs_subst (A : List Atom) : ∀ (n f : Nat), f + n ≤ A.length → (srcs f n).map (Atom.subst A) = (A.drop f).take n
  | 0, _, _ => by simp [srcs]
  | n + 1, f, h => by
    have hf : f < A.length := by omega
    rw [srcs, List.map_cons, srcs_subst A n (f + 1) (by omega), List.drop_eq_getElem_cons hf, List.take_succ_cons]
    congr 1
    show A[f]?.getD (.src 0) = _
    rw [List.getElem?_eq_getElem hf]; rfl
end Go.Proofs.Ytpiodpljiklfkaa
/-
  Plain laws of deltas: the longest match; what Make returns.
-/
namespace Go.Proofs.Ytpiodpljiklfkaa

/-- The length of the longest common beginning. -/
def cmn : List UInt8 → List UInt8 → Nat
  | x :: a, y :: b => if x = y then cmn a b + 1 else 0
  | _, _ => 0
theorem cmn_nil_right : ∀ a : List UInt8, cmn a [] = 0
  | [] => rfl
  | _ :: _ => rfl
theorem cmn_le : ∀ (a b : List UInt8), cmn a b ≤ a.length ∧ cmn a b ≤ b.length
  | [], b => by simp [cmn]
  | x :: a, [] => by simp [cmn]
  | x :: a, y :: b => by
    unfold cmn
    have := cmn_le a b
    split <;> simp <;> omega
theorem cmn_take : ∀ (a b : List UInt8), a.take (cmn a b) = b.take (cmn a b)
  | [], b => by simp [cmn]
  | x :: a, [] => by simp [cmn]
  | x :: a, y :: b => by
    unfold cmn
    split
    · rename_i h; subst h; rw [List.take_succ_cons, List.take_succ_cons, cmn_take a b]
    · simp
theorem cmn_ge : ∀ (n : Nat) (a b : List UInt8), n ≤ cmn a b ↔ n ≤ a.length ∧ n ≤ b.length ∧ a.take n = b.take n
  | 0, a, b => by simp
  | n + 1, [], b => by simp [cmn]
  | n + 1, x :: a, [] => by simp [cmn]
  | n + 1, x :: a, y :: b => by
    unfold cmn
    have ih := cmn_ge n a b
    by_cases h : x = y
    · subst h
      rw [if_pos rfl, List.take_succ_cons, List.take_succ_cons, List.length_cons, List.length_cons]
      simp only [Nat.add_le_add_iff_right, List.cons.injEq, true_and]
      exact ih
    · rw [if_neg h, List.take_succ_cons, List.take_succ_cons]
      constructor
      · intro h'; omega
      · rintro ⟨-, -, h'⟩; exact absurd (List.cons.inj h').1 h
/-- Behind k equal bytes. -/
theorem cmn_step {a b : List UInt8} {k : Nat} {x y : UInt8} (ha : a[k]? = some x) (hb : b[k]? = some y) : cmn (a.drop k) (b.drop k) = if x = y then cmn (a.drop (k + 1)) (b.drop (k + 1)) + 1 else 0 := by
  obtain ⟨h1, rfl⟩ := List.getElem?_eq_some_iff.1 ha
  obtain ⟨h2, rfl⟩ := List.getElem?_eq_some_iff.1 hb
  rw [List.drop_eq_getElem_cons h1, List.drop_eq_getElem_cons h2]
  rfl
theorem cmn_out {a b : List UInt8} {k : Nat} (h : a.length ≤ k ∨ b.length ≤ k) : cmn (a.drop k) (b.drop k) = 0 := by
  rcases h with h | h
  · rw [List.drop_of_length_le h]; rfl
  · rw [List.drop_of_length_le h, cmn_nil_right]
/-- The longest match of a beginning of T, from s on: its length, its first occurrence. -/
def matchF (b T : List UInt8) : Nat → Nat → Nat → Nat → Nat × Nat
  | 0, _, best, fr => (best, fr)
  | n + 1, s, best, fr => if best < cmn (b.drop s) T then matchF b T n (s + 1) (cmn (b.drop s) T) s else matchF b T n (s + 1) best fr
def matchD (b T : List UInt8) : Nat × Nat := matchF b T b.length 0 0 0
theorem matchF_bound (b T : List UInt8) : ∀ (n s best fr : Nat), (best ≤ T.length ∧ (0 < best → fr + best ≤ b.length ∧ (b.drop fr).take best = T.take best)) → n + s ≤ b.length →
    (matchF b T n s best fr).1 ≤ T.length ∧ (0 < (matchF b T n s best fr).1 → (matchF b T n s best fr).2 + (matchF b T n s best fr).1 ≤ b.length ∧ (b.drop (matchF b T n s best fr).2).take (matchF b T n s best fr).1 = T.take (matchF b T n s best fr).1)
  | 0, s, best, fr, h, _ => h
  | n + 1, s, best, fr, h, hn => by
    unfold matchF
    have h1 := cmn_le (b.drop s) T
    split
    · refine matchF_bound b T n (s + 1) _ s ⟨h1.2, fun h0 => ⟨?_, cmn_take _ _⟩⟩ (by omega)
      rw [List.length_drop] at h1; omega
    · exact matchF_bound b T n (s + 1) best fr h (by omega)
theorem matchD_bound (b T : List UInt8) : (matchD b T).1 ≤ T.length ∧ (0 < (matchD b T).1 → (matchD b T).2 + (matchD b T).1 ≤ b.length ∧ (b.drop (matchD b T).2).take (matchD b T).1 = T.take (matchD b T).1) :=
  matchF_bound b T _ 0 0 0 ⟨Nat.zero_le _, fun h => absurd h (Nat.lt_irrefl 0)⟩ (by omega)
/-- The offsets, from s on, where the first four bytes of T stand. -/
def candF (b T : List UInt8) : Nat → Nat → List Nat
  | 0, _ => []
  | n + 1, s => if 4 ≤ cmn (b.drop s) T then s :: candF b T n (s + 1) else candF b T n (s + 1)
/-- The best of the candidates, as the program goes through them: from, length. -/
def bestF (b T : List UInt8) : List Nat → Nat × Nat → Nat × Nat
  | [], r => r
  | s :: ss, r => bestF b T ss (if r.2 < cmn (b.drop s) T then (s, cmn (b.drop s) T) else r)
theorem best_cand (b T : List UInt8) : ∀ (n s best fr : Nat) (r : Nat × Nat), (best < 4 ∧ r = (0, 0)) ∨ (4 ≤ best ∧ r = (fr, best)) →
    bestF b T (candF b T n s) r = if 4 ≤ (matchF b T n s best fr).1 then ((matchF b T n s best fr).2, (matchF b T n s best fr).1) else (0, 0)
  | 0, s, best, fr, r, h => by
    unfold candF matchF bestF
    rcases h with ⟨h1, rfl⟩ | ⟨h1, rfl⟩
    · rw [if_neg (by show ¬ 4 ≤ best; omega)]
    · rw [if_pos (by show 4 ≤ best; exact h1)]
  | n + 1, s, best, fr, r, h => by
    unfold candF matchF
    by_cases hk : 4 ≤ cmn (b.drop s) T
    · rw [if_pos hk]
      unfold bestF
      by_cases hb : best < cmn (b.drop s) T
      · rw [if_pos hb]
        have hr : r.2 < cmn (b.drop s) T := by rcases h with ⟨h1, rfl⟩ | ⟨h1, rfl⟩ <;> simp <;> omega
        rw [if_pos hr]
        exact best_cand b T n (s + 1) _ s _ (.inr ⟨hk, rfl⟩)
      · rw [if_neg hb]
        have hr : ¬ r.2 < cmn (b.drop s) T := by rcases h with ⟨h1, rfl⟩ | ⟨h1, rfl⟩ <;> simp <;> omega
        rw [if_neg hr]
        exact best_cand b T n (s + 1) best fr r h
    · rw [if_neg hk]
      by_cases hb : best < cmn (b.drop s) T
      · rw [if_pos hb]
        refine best_cand b T n (s + 1) _ s r (.inl ⟨by omega, ?_⟩)
        rcases h with ⟨h1, rfl⟩ | ⟨h1, rfl⟩
        · rfl
        · omega
      · rw [if_neg hb]
        exact best_cand b T n (s + 1) best fr r h
theorem best_is (b T : List UInt8) : bestF b T (candF b T b.length 0) (0, 0) = if 4 ≤ (matchD b T).1 then ((matchD b T).2, (matchD b T).1) else (0, 0) := best_cand b T b.length 0 0 0 (0, 0) (.inl ⟨by omega, rfl⟩)
theorem cand_mem (b T : List UInt8) : ∀ (n s x : Nat), x ∈ candF b T n s ↔ s ≤ x ∧ x < s + n ∧ 4 ≤ cmn (b.drop x) T
  | 0, s, x => by simp [candF]; omega
  | n + 1, s, x => by
    unfold candF
    have ih := cand_mem b T n (s + 1) x
    split
    · rename_i h
      rw [List.mem_cons, ih]
      constructor
      · rintro (rfl | h1)
        · exact ⟨Nat.le_refl _, by omega, h⟩
        · omega
      · intro h1
        by_cases hx : x = s
        · exact .inl hx
        · exact .inr (by omega)
    · rename_i h
      rw [ih]
      constructor
      · intro h1; omega
      · intro h1
        by_cases hx : x = s
        · subst hx; omega
        · omega

/-! ### Make -/
/-- The delta of the rest of a target behind a normal one. -/
def makeF (b : List UInt8) : Nat → List UInt8 → List Dp → List Dp
  | 0, _, acc => acc
  | n + 1, T, acc =>
    match T with
    | [] => acc
    | x :: T' => if 4 ≤ (matchD b T).1 then makeF b n (T.drop (matchD b T).1) (addD acc ⟨(matchD b T).2, (matchD b T).1, []⟩) else makeF b n T' (addD acc ⟨0, 0, [x]⟩)
def makeD (b T : List UInt8) : List Dp := makeF b T.length T []
def makeRes (b T : List UInt8) : List Dp × Int := if 2048 < b.length ∨ 2048 < T.length then ([], 262) else (makeD b T, 0)
theorem makeF_more (b : List UInt8) : ∀ (n m : Nat) (T : List UInt8) (acc : List Dp), T.length ≤ n → n ≤ m → makeF b m T acc = makeF b n T acc
  | 0, m, T, acc, h, _ => by
    obtain rfl : T = [] := List.eq_nil_of_length_eq_zero (by omega)
    cases m <;> rfl
  | n + 1, 0, _, _, _, h => by omega
  | n + 1, m + 1, [], acc, _, _ => rfl
  | n + 1, m + 1, x :: T, acc, h, h' => by
    unfold makeF
    simp only
    have hl := List.length_cons (a := x) (as := T)
    split
    · rename_i hk
      refine makeF_more b n m _ _ ?_ (by omega)
      rw [List.length_drop]; omega
    · exact makeF_more b n m _ _ (by omega) (by omega)
/-- One round. -/
theorem make_copy {b T : List UInt8} (acc : List Dp) {k fr : Nat} (hm : matchD b T = (k, fr)) (hk : 4 ≤ k) : makeF b T.length T acc = makeF b (T.drop k).length (T.drop k) (addD acc ⟨fr, k, []⟩) := by
  have hb := (matchD_bound b T).1
  rw [hm] at hb
  have hb' : k ≤ T.length := hb
  cases T with
  | nil => simp at hb'; omega
  | cons x T =>
    rw [List.length_cons, makeF, hm]
    simp only
    rw [if_pos hk]
    refine makeF_more b _ _ _ _ (Nat.le_refl _) ?_
    rw [List.length_drop, List.length_cons]; omega
theorem make_lit {b T : List UInt8} {x : UInt8} (acc : List Dp) (hm : ¬ 4 ≤ (matchD b (x :: T)).1) : makeF b (x :: T).length (x :: T) acc = makeF b T.length T (addD acc ⟨0, 0, [x]⟩) := by
  rw [List.length_cons, makeF, if_neg hm]
end Go.Proofs.Ytpiodpljiklfkaa
/-
  Plain laws of what Make returns: its result, its copies, its literals.
-/
namespace Go.Proofs.Ytpiodpljiklfkaa

theorem addD_inv' {D : List Dp} {o : Dp} (h : Nm D) (ho : o.fine) : Nm (addD D o) ∧ atomsD (addD D o) = atomsD D ++ o.atoms := by
  rw [addD_atoms ho]; exact foldl_nm o.atoms D h
theorem addD_big {m : Int} {D : List Dp} {o : Dp} (h : ∀ x ∈ D, 1 ≤ x.z → m ≤ x.z) (ho : 1 ≤ o.z → m ≤ o.z) (h0 : 0 ≤ o.z) : ∀ x ∈ addD D o, 1 ≤ x.z → m ≤ x.z := by
  intro x hx h1
  unfold addD at hx
  have hn : ∀ l : List UInt8, x = ⟨0, 0, l⟩ → False := fun l e => by rw [e] at h1; have h2 : (1 : Int) ≤ 0 := h1; omega
  have hn2 : ∀ l : List UInt8, x = ⟨o.f, o.z, l⟩ → m ≤ x.z := fun l e => by rw [e] at h1 ⊢; exact ho h1
  rcases List.eq_nil_or_concat D with rfl | ⟨A, y, rfl⟩
  · simp only [List.getLast?_nil] at hx
    split at hx
    · exact hn2 [] (by simpa using hx)
    · exact (hn o.l (by simpa using hx)).elim
  · rw [List.concat_eq_append] at hx h
    rw [last_snoc] at hx
    simp only [List.dropLast_concat] at hx
    have hA : ∀ z ∈ A, 1 ≤ z.z → m ≤ z.z := fun z hz => h z (List.mem_append_left _ hz)
    have hy := h y (by simp)
    split at hx
    · split at hx
      · rename_i hj
        rcases List.mem_append.1 hx with hx | hx
        · exact hA x hx h1
        · rw [List.mem_singleton] at hx; subst hx
          have := hy (by omega)
          show m ≤ y.z + o.z
          omega
      · rcases List.mem_append.1 hx with hx | hx
        · exact h x hx h1
        · exact hn2 [] (by simpa using hx)
    · split at hx
      · rename_i hj
        rcases List.mem_append.1 hx with hx | hx
        · exact hA x hx h1
        · rw [List.mem_singleton] at hx; subst hx
          have h2 : (1 : Int) ≤ y.z := h1
          omega
      · rcases List.mem_append.1 hx with hx | hx
        · exact h x hx h1
        · exact (hn o.l (by simpa using hx)).elim

/-- What holds of a delta of the first p bytes of T, as Make goes. -/
structure MkInv (b T : List UInt8) (p : Nat) (D : List Dp) : Prop where
  nm : Nm D
  below : ∀ x ∈ atomsD D, x.below b.length
  len : (atomsD D).length = p
  read : (atomsD D).map (Atom.read b) = T.take p
  big : ∀ o ∈ D, 1 ≤ o.z → 4 ≤ o.z
  greedy : ∀ i c, (atomsD D)[i]? = some (.lit c) → (matchD b (T.drop i)).1 < 4
theorem MkInv.nil (b T : List UInt8) : MkInv b T 0 [] :=
  ⟨⟨trivial, fun o ho => by cases ho⟩, (fun x hx => by cases hx), rfl, rfl, (fun o ho => by cases ho), fun i c h => by cases h⟩
theorem MkInv.add {b T : List UInt8} {p : Nat} {D : List Dp} (h : MkInv b T p D) {o : Dp} (ho : o.ok b.length) (ha : o.app b = (T.drop p).take o.size) (hb : 1 ≤ o.z → 4 ≤ o.z) (h0 : 0 ≤ o.z)
    (hg : ∀ i c, o.atoms[i]? = some (.lit c) → (matchD b (T.drop (p + i))).1 < 4) : MkInv b T (p + o.size) (addD D o) := by
  obtain ⟨h1, h2⟩ := addD_inv' h.nm ho.fine
  refine ⟨h1, ?_, ?_, ?_, addD_big h.big hb h0, ?_⟩
  · rw [h2]; intro x hx
    rcases List.mem_append.1 hx with hx | hx
    · exact h.below x hx
    · exact atoms_below ho x hx
  · rw [h2, List.length_append, h.len, atoms_length]
  · rw [h2, List.map_append, h.read, atoms_read ho, ha, ← List.take_add]
  · intro i c hi
    rw [h2] at hi
    by_cases hip : i < p
    · rw [List.getElem?_append_left (by rw [h.len]; exact hip)] at hi
      exact h.greedy i c hi
    · rw [List.getElem?_append_right (by rw [h.len]; omega), h.len] at hi
      have := hg _ c hi
      rwa [show p + (i - p) = i by omega] at this
theorem MkInv.makeF {b T : List UInt8} : ∀ (n p : Nat) (D : List Dp), MkInv b T p D → p ≤ T.length → T.length ≤ p + n → MkInv b T T.length (makeF b n (T.drop p) D)
  | 0, p, D, h, hp, hn => by
    obtain rfl : p = T.length := by omega
    exact h
  | n + 1, p, D, h, hp, hn => by
    unfold Proofs.Ytpiodpljiklfkaa.makeF
    cases hT : T.drop p with
    | nil =>
      have := congrArg List.length hT
      rw [List.length_drop] at this
      simp only [List.length_nil] at this
      obtain rfl : p = T.length := by omega
      exact h
    | cons x T' =>
      simp only
      have hl := congrArg List.length hT
      rw [List.length_drop, List.length_cons] at hl
      have hb := matchD_bound b (x :: T')
      split
      · rename_i h4
        obtain ⟨k, fr, hm⟩ : ∃ k fr, matchD b (x :: T') = (k, fr) := ⟨_, _, rfl⟩
        rw [hm] at hb h4 ⊢
        simp only at hb h4 ⊢
        obtain ⟨hb1, hb2⟩ := hb
        obtain ⟨hb3, hb4⟩ := hb2 (by omega)
        rw [List.length_cons] at hb1
        have hc : (⟨fr, k, []⟩ : Dp).copies = true := by simp [Dp.copies]; omega
        have hsz : (⟨fr, k, []⟩ : Dp).size = k := by unfold Dp.size; rw [if_pos hc]; rfl
        have ha := h.add (o := ⟨fr, k, []⟩) (.inl ⟨hc, by show (0 : Int) ≤ fr; omega, by show (fr : Int) + k ≤ b.length; omega⟩)
          (by unfold Dp.app; rw [if_pos hc, hsz, hT]; exact hb4) (fun _ => by show (4 : Int) ≤ k; omega) (by show (0 : Int) ≤ k; omega)
          (fun i c hi => by
            unfold Dp.atoms at hi
            rw [if_pos hc] at hi
            simp only [Int.toNat_natCast] at hi
            have hil : i < k := by
              have := (List.getElem?_eq_some_iff.1 hi).1
              rwa [srcs_length] at this
            rw [srcs_get k fr i hil] at hi
            cases hi)
        rw [hsz] at ha
        have := MkInv.makeF n (p + k) _ ha (by omega) (by omega)
        rwa [← List.drop_drop, hT] at this
      · rename_i h4
        have hc : (⟨0, 0, [x]⟩ : Dp).copies = false := by simp [Dp.copies]
        have hsz : (⟨0, 0, [x]⟩ : Dp).size = 1 := by unfold Dp.size; rw [hc]; rfl
        have ha := h.add (o := ⟨0, 0, [x]⟩) (.inr (by simp [Dp.literal])) (by unfold Dp.app; rw [hsz, hT, hc]; rfl) (fun h => by have h2 : (1 : Int) ≤ 0 := h; omega) (Int.le_refl _)
          (fun i c hi => by
            unfold Dp.atoms at hi
            rw [hc] at hi
            have hil : i < 1 := by simpa using (List.getElem?_eq_some_iff.1 hi).1
            obtain rfl : i = 0 := by omega
            rw [Nat.add_zero, hT]; omega)
        rw [hsz] at ha
        have := MkInv.makeF n (p + 1) _ ha (by omega) (by omega)
        rwa [← List.drop_drop, hT, List.drop_succ_cons, List.drop_zero] at this
theorem make_inv (b T : List UInt8) : MkInv b T T.length (makeD b T) := by
  have := MkInv.makeF (b := b) (T := T) T.length 0 [] (MkInv.nil b T) (Nat.zero_le _) (by omega)
  rwa [List.drop_zero] at this
theorem MkInv.ok {b T : List UInt8} {p : Nat} {D : List Dp} (h : MkInv b T p D) : ∀ o ∈ D, o.ok b.length := fun o ho =>
  ok_of_below (h.nm.2 o ho) fun x hx => h.below x (by unfold atomsD; exact List.mem_flatMap.2 ⟨o, ho, hx⟩)
/-- The delta turns base into target. -/
theorem make_turns (b T : List UInt8) : appD b (makeD b T) = T := by
  have h := make_inv b T
  rw [← atomsD_read h.ok, h.read, List.take_length]
theorem make_size (b T : List UInt8) : sizeD (makeD b T) = T.length := by
  have h := make_inv b T
  rw [← atomsD_length, h.len]

/-! ### A string of itself; a string of other bytes -/
theorem matchF_full (b T : List UInt8) : ∀ (n s fr : Nat), matchF b T n s T.length fr = (T.length, fr)
  | 0, _, _ => rfl
  | n + 1, s, fr => by
    unfold matchF
    have := (cmn_le (b.drop s) T).2
    rw [if_neg (by omega)]
    exact matchF_full b T n (s + 1) fr
theorem cmn_self : ∀ a : List UInt8, cmn a a = a.length
  | [] => rfl
  | x :: a => by unfold cmn; rw [if_pos rfl, cmn_self a]; rfl
theorem matchD_self (a : List UInt8) : matchD a a = (a.length, 0) := by
  unfold matchD
  cases h : a.length with
  | zero => rfl
  | succ n =>
    unfold matchF
    rw [List.drop_zero, cmn_self, if_pos (by omega), matchF_full, h]
theorem make_self {a : List UInt8} (h : 4 ≤ a.length) : makeD a a = [⟨0, a.length, []⟩] := by
  unfold makeD
  rw [make_copy [] (matchD_self a) h, List.drop_length]
  show addD [] _ = _
  unfold addD
  rw [if_pos (by simp [Dp.copies]; omega)]
  rfl
theorem matchF_none {b T : List UInt8} (h : ∀ s, cmn (b.drop s) T = 0) : ∀ (n s fr : Nat), matchF b T n s 0 fr = (0, fr)
  | 0, _, _ => rfl
  | n + 1, s, fr => by
    unfold matchF
    rw [if_neg (by rw [h s]; omega)]
    exact matchF_none h n (s + 1) fr
theorem cmn_apart {b T : List UInt8} {x : UInt8} (h : x ∉ b) : cmn b (x :: T) = 0 := by
  cases b with
  | nil => rfl
  | cons y b => unfold cmn; rw [if_neg (fun e => h (by rw [e]; exact List.mem_cons_self ..))]
theorem makeF_apart {b : List UInt8} {x : UInt8} (h : x ∉ b) : ∀ (n j : Nat), makeF b n (List.replicate n x) [⟨0, 0, List.replicate (j + 1) x⟩] = [⟨0, 0, List.replicate (j + 1 + n) x⟩]
  | 0, j => rfl
  | n + 1, j => by
    have hm : matchD b (x :: List.replicate n x) = (0, 0) := matchF_none (fun s => cmn_apart (fun hx => h (List.mem_of_mem_drop hx))) _ _ _
    rw [List.replicate_succ]
    unfold makeF
    simp only
    rw [hm, if_neg (by decide)]
    have : addD [⟨0, 0, List.replicate (j + 1) x⟩] ⟨0, 0, [x]⟩ = [⟨0, 0, List.replicate (j + 1 + 1) x⟩] := by
      unfold addD
      simp only [List.getLast?_singleton, Dp.copies]
      simp [List.replicate_succ']
    rw [this, makeF_apart h n (j + 1)]
    congr 3; omega
theorem make_apart {b : List UInt8} {x : UInt8} (h : x ∉ b) (n : Nat) : makeD b (List.replicate (n + 1) x) = [⟨0, 0, List.replicate (n + 1) x⟩] := by
  have hm : matchD b (x :: List.replicate n x) = (0, 0) := matchF_none (fun s => cmn_apart (fun hx => h (List.mem_of_mem_drop hx))) _ _ _
  unfold makeD
  rw [List.length_replicate, List.replicate_succ]
  unfold makeF
  simp only
  rw [hm, if_neg (by decide)]
  have : addD [] ⟨0, 0, [x]⟩ = [⟨0, 0, List.replicate (0 + 1) x⟩] := by
    unfold addD
    simp [Dp.copies]
  rw [this, makeF_apart h n 0, ← List.replicate_succ]
  congr 3; omega
end Go.Proofs.Ytpiodpljiklfkaa
/-
  Plain laws of the encoding of deltas, and what it costs.
-/
namespace Go.Proofs.Ytpiodpljiklfkaa

def Dp.enc (o : Dp) : List UInt8 := if o.copies then Proofs.Ytpiodpljiklfkaa.enc (2 * o.z.toNat + 1) ++ Proofs.Ytpiodpljiklfkaa.enc o.f.toNat else Proofs.Ytpiodpljiklfkaa.enc (2 * o.l.length) ++ o.l
def encOps (os : List Dp) : List UInt8 := os.flatMap Dp.enc
def encD (os : List Dp) : List UInt8 := enc os.length ++ encOps os
def fineB (o : Dp) : Bool := (o.copies && decide (0 ≤ o.f)) || o.literal
theorem fineB_iff {o : Dp} : fineB o = true ↔ o.fine := by
  unfold fineB Dp.fine
  simp only [Bool.or_eq_true, Bool.and_eq_true, decide_eq_true_eq]
def costD (os : List Dp) : Nat := if os.all fineB then (encD os).length else 0

theorem enc_two {v : Nat} (h : v < 16384) : (enc v).length ≤ 2 := enc_le 1 v h
theorem enc_copy {o : Dp} {n : Nat} (hc : o.copies = true) (h4 : 4 ≤ o.z) (hz : o.z ≤ n) (hf : o.f ≤ n) (hn : n ≤ 2048) : o.enc.length + 1 ≤ o.size := by
  unfold Dp.enc Dp.size
  rw [if_pos hc, if_pos hc, List.length_append]
  have h2 := enc_two (v := o.f.toNat) (by omega)
  have h3 := enc_two (v := 2 * o.z.toNat + 1) (by omega)
  by_cases hk : o.z.toNat < 64
  · rw [enc_len_lt (by omega)]; omega
  · omega
theorem enc_lit {o : Dp} (hc : o.copies = false) (hl : o.l.length ≤ 2048) : 64 * o.enc.length ≤ 65 * o.size + 64 := by
  unfold Dp.enc Dp.size
  rw [hc]
  simp only [Bool.false_eq_true, if_false, List.length_append]
  have h2 := enc_two (v := 2 * o.l.length) (by omega)
  by_cases hk : o.l.length < 64
  · rw [enc_len_lt (by omega)]; omega
  · omega
theorem nm_tail {o : Dp} {os : List Dp} (h : Nm (o :: os)) : Nm os := by
  refine ⟨?_, fun x hx => h.2 x (List.mem_cons_of_mem _ hx)⟩
  have := h.1
  cases os with
  | nil => trivial
  | cons y os => exact this.2
/-- The encoding of ops; the first is a copy, or it is not known. -/
theorem encOps_le {n : Nat} (hn : n ≤ 2048) : ∀ (os : List Dp), Nm os → (∀ o ∈ os, o.z ≤ n ∧ o.f ≤ n ∧ o.l.length ≤ 2048) → (∀ o ∈ os, 1 ≤ o.z → 4 ≤ o.z) →
    64 * (encOps os).length ≤ 65 * sizeD os + 64 ∧ ((∀ o, os.head? = some o → 1 ≤ o.z) → 64 * (encOps os).length ≤ 65 * sizeD os)
  | [], _, _, _ => by simp [encOps, sizeD]
  | o :: os, h, hb, h4 => by
    obtain ⟨ih1, ih2⟩ := encOps_le hn os (nm_tail h) (fun x hx => hb x (List.mem_cons_of_mem _ hx)) (fun x hx => h4 x (List.mem_cons_of_mem _ hx))
    have hs : sizeD (o :: os) = o.size + sizeD os := by simp [sizeD]
    have he : (encOps (o :: os)).length = o.enc.length + (encOps os).length := by simp [encOps]
    rw [hs, he]
    obtain ⟨b1, b2, b3⟩ := hb o (List.mem_cons_self ..)
    rcases h.2 o (List.mem_cons_self ..) with ⟨h1, h2, h3⟩ | ⟨h1, h2, h3⟩
    · have hc : o.copies = true := by simp [Dp.copies, h1, h3]
      have := enc_copy hc (h4 o (List.mem_cons_self ..) h1) b1 b2 hn
      exact ⟨by omega, fun _ => by omega⟩
    · have hc : o.copies = false := by simp [Dp.copies]; omega
      have h5 := enc_lit hc b3
      have h6 := ih2 (fun y hy => by
        cases os with
        | nil => cases hy
        | cons z os =>
          cases hy
          have ha := h.1.1
          unfold apartD at ha
          rcases h.2 y (List.mem_cons_of_mem _ (List.mem_cons_self ..)) with ⟨g1, _⟩ | ⟨g1, _⟩
          · exact g1
          · exact absurd ⟨h1, g1⟩ ha.1)
      exact ⟨by omega, fun hh => by have := hh o rfl; omega⟩
theorem make_cost {b T : List UInt8} (hb : b.length ≤ 2048) (hT : T.length ≤ 2048) : costD (makeD b T) ≤ T.length + T.length / 2 + 4 := by
  have h := make_inv b T
  have hsz := make_size b T
  unfold costD
  split
  · unfold encD
    rw [List.length_append]
    have hlen : (makeD b T).length ≤ sizeD (makeD b T) := by
      have : ∀ os : List Dp, (∀ o ∈ os, o.nice) → os.length ≤ sizeD os := by
        intro os
        induction os with
        | nil => intro _; exact Nat.zero_le _
        | cons o os ih =>
          intro hh
          have h1 := ih (fun x hx => hh x (List.mem_cons_of_mem _ hx))
          have hs : sizeD (o :: os) = o.size + sizeD os := by simp [sizeD]
          have h2 : 1 ≤ o.size := by
            rcases hh o (List.mem_cons_self ..) with ⟨h1, h2, h3⟩ | ⟨h1, h2, h3⟩
            · have hc : o.copies = true := by simp [Dp.copies, h1, h3]
              unfold Dp.size; rw [if_pos hc]; omega
            · have hc : o.copies = false := by simp [Dp.copies]; omega
              unfold Dp.size; rw [hc]
              exact List.length_pos_iff.2 h3
          rw [hs, List.length_cons]; omega
      exact this _ h.nm.2
    have h1 := enc_two (v := (makeD b T).length) (by omega)
    have h2 := (encOps_le (n := 2048) (Nat.le_refl _) (makeD b T) h.nm (fun o ho => by
      have hs : o.size ≤ sizeD (makeD b T) := by
        obtain ⟨A, B, hAB⟩ := List.append_of_mem ho
        rw [hAB]; simp [sizeD]; omega
      rcases h.nm.2 o ho with ⟨g1, g2, g3⟩ | ⟨g1, g2, g3⟩
      · have hc : o.copies = true := by simp [Dp.copies, g1, g3]
        rcases h.ok o ho with ⟨_, k1, k2⟩ | k
        · exact ⟨by omega, by omega, by rw [g3]; exact Nat.zero_le _⟩
        · rw [Dp.copies_not_literal hc] at k; cases k
      · have hc : o.copies = false := by simp [Dp.copies]; omega
        unfold Dp.size at hs; rw [hc] at hs
        simp only [Bool.false_eq_true, if_false] at hs
        exact ⟨by omega, by omega, by omega⟩) h.big).1
    omega
  · omega
end Go.Proofs.Ytpiodpljiklfkaa
/-
  Plain laws of composing: the pieces that a copy of a copy falls into.
-/
namespace Go.Proofs.Ytpiodpljiklfkaa

/-- The bytes a to b - 1 of what an op stands for, as an op. -/
def cutD (o : Dp) (a b : Nat) : Dp := if o.copies then ⟨o.f + a, ((b - a : Nat) : Int), []⟩ else ⟨0, 0, (o.l.drop a).take (b - a)⟩
/-- The pieces of ops that make up the bytes s to t - 1, if the first op begins at offset k. -/
def partF (s t : Nat) : Nat → List Dp → List Dp
  | _, [] => []
  | k, o :: os => (if s - k < min (t - k) o.size then [cutD o (s - k) (min (t - k) o.size)] else []) ++ partF s t (k + o.size) os
theorem srcs_cut (f n a b : Nat) (hb : b ≤ n) : ((srcs f n).take b).drop a = srcs (f + a) (b - a) := by
  apply List.ext_getElem?
  intro i
  rw [List.getElem?_drop, List.getElem?_take]
  by_cases h : a + i < b
  · rw [if_pos h, srcs_get n f (a + i) (by omega), srcs_get (b - a) (f + a) i (by omega)]
    congr 2; omega
  · rw [if_neg h, List.getElem?_eq_none (by rw [srcs_length]; omega)]
theorem cutD_atoms {o : Dp} (ho : o.fine) {a b : Nat} (hab : a < b) (hb : b ≤ o.size) : (cutD o a b).atoms = (o.atoms.take b).drop a := by
  unfold cutD
  rcases ho with ⟨hc, hf⟩ | hl
  · rw [if_pos hc]
    have hs : o.size = o.z.toNat := by unfold Dp.size; rw [if_pos hc]
    have h1 : o.atoms = srcs o.f.toNat o.z.toNat := by unfold Dp.atoms; rw [if_pos hc]
    rw [h1, srcs_cut _ _ _ _ (by omega), atoms_copy (o.f.toNat + a) (b - a) _ (by show o.f + a = _; omega) rfl (by omega) rfl]
  · have hc : o.copies = false := by
      cases h : o.copies with
      | false => rfl
      | true => rw [Dp.copies_not_literal h] at hl; cases hl
    rw [hc]
    simp only [Bool.false_eq_true, if_false]
    have h1 : o.atoms = o.l.map .lit := by unfold Dp.atoms; rw [hc]; rfl
    rw [h1, atoms_lit _ rfl, ← List.map_take, ← List.map_drop, List.drop_take]
theorem cutD_fine {o : Dp} (ho : o.fine) {a b : Nat} (hab : a < b) (hb : b ≤ o.size) : (cutD o a b).fine := by
  unfold cutD
  rcases ho with ⟨hc, hf⟩ | hl
  · rw [if_pos hc]
    exact .inl ⟨by simp [Dp.copies]; omega, by show 0 ≤ o.f + a; omega⟩
  · have hc : o.copies = false := by
      cases h : o.copies with
      | false => rfl
      | true => rw [Dp.copies_not_literal h] at hl; cases hl
    rw [hc]
    simp only [Bool.false_eq_true, if_false]
    have hs : o.size = o.l.length := by unfold Dp.size; rw [hc]; rfl
    refine .inr ?_
    have : ((o.l.drop a).take (b - a)) ≠ [] := by
      intro h
      have := congrArg List.length h
      rw [List.length_take, List.length_drop] at this
      simp only [List.length_nil] at this
      omega
    cases hh : (o.l.drop a).take (b - a) with
    | nil => exact absurd hh this
    | cons x xs => simp [Dp.literal]
theorem atomsD_cons (o : Dp) (os : List Dp) : atomsD (o :: os) = o.atoms ++ atomsD os := by simp [atomsD]
theorem atomsD_append (A B : List Dp) : atomsD (A ++ B) = atomsD A ++ atomsD B := by simp [atomsD]
theorem sizeD_cons (o : Dp) (os : List Dp) : sizeD (o :: os) = o.size + sizeD os := by simp [sizeD]
theorem partF_atoms (s t : Nat) : ∀ (os : List Dp) (k : Nat), (∀ o ∈ os, o.fine) → atomsD (partF s t k os) = ((atomsD os).take (t - k)).drop (s - k)
  | [], k, _ => by simp [partF, atomsD]
  | o :: os, k, h => by
    unfold partF
    rw [atomsD_append, partF_atoms s t os _ (fun x hx => h x (List.mem_cons_of_mem _ hx)), atomsD_cons, List.take_append, List.drop_append, atoms_length, List.length_take, atoms_length]
    have ho := h o (List.mem_cons_self ..)
    congr 1
    · split
      · rename_i hlt
        rw [show atomsD [cutD o (s - k) (min (t - k) o.size)] = (cutD o (s - k) (min (t - k) o.size)).atoms by simp [atomsD], cutD_atoms ho hlt (Nat.min_le_right _ _)]
        by_cases hm : t - k ≤ o.size
        · rw [Nat.min_eq_left hm]
        · rw [Nat.min_eq_right (by omega), List.take_of_length_le (by rw [atoms_length]; omega), List.take_of_length_le (by rw [atoms_length]; omega)]
      · rename_i hlt
        rw [List.drop_of_length_le (by rw [List.length_take, atoms_length]; omega)]
        rfl
    · by_cases hm : t - k ≤ o.size
      · rw [show t - (k + o.size) = 0 by omega, show t - k - o.size = 0 by omega]; simp
      · rw [Nat.min_eq_right (by omega), show t - (k + o.size) = t - k - o.size by omega, show s - (k + o.size) = s - k - o.size by omega]
theorem partF_fine (s t : Nat) : ∀ (os : List Dp) (k : Nat), (∀ o ∈ os, o.fine) → ∀ x ∈ partF s t k os, x.fine
  | [], _, _, x, hx => by cases hx
  | o :: os, k, h, x, hx => by
    unfold partF at hx
    rcases List.mem_append.1 hx with hx | hx
    · split at hx
      · rename_i hlt
        rw [List.mem_singleton] at hx; subst hx
        exact cutD_fine (h o (List.mem_cons_self ..)) hlt (Nat.min_le_right _ _)
      · cases hx
    · exact partF_fine s t os _ (fun y hy => h y (List.mem_cons_of_mem _ hy)) x hx
theorem partF_length (s t : Nat) : ∀ (os : List Dp) (k : Nat), (partF s t k os).length ≤ os.length
  | [], _ => Nat.le_refl _
  | o :: os, k => by
    unfold partF
    rw [List.length_append, List.length_cons]
    have := partF_length s t os (k + o.size)
    split <;> simp <;> omega
theorem partF_done (s t : Nat) (h : t ≤ s) : ∀ (os : List Dp) (k : Nat), partF s t k os = []
  | [], _ => rfl
  | o :: os, k => by
    unfold partF
    rw [if_neg (by omega), partF_done s t h os]; rfl
theorem partF_past (s t : Nat) : ∀ (os : List Dp) (k : Nat), t ≤ k → partF s t k os = []
  | [], _, _ => rfl
  | o :: os, k, h => by
    unfold partF
    rw [if_neg (by omega), partF_past s t os _ (by omega)]; rfl
/-- Ops that end ahead of s give nothing. -/
theorem partF_skip (s t : Nat) : ∀ (A B : List Dp) (k : Nat), k + sizeD A ≤ s → partF s t k (A ++ B) = partF s t (k + sizeD A) B
  | [], B, k, _ => by simp [sizeD]
  | o :: A, B, k, h => by
    rw [sizeD_cons] at h
    rw [List.cons_append, partF, if_neg (by omega), List.nil_append, partF_skip s t A B _ (by omega), sizeD_cons, Nat.add_assoc]
/-- One piece off, if s lies in the first op. -/
theorem partF_step {s t k : Nat} {o : Dp} {os : List Dp} (h1 : k ≤ s) (h2 : s < k + o.size) (h3 : s < t) : partF s t k (o :: os) = cutD o (s - k) (min t (k + o.size) - k) :: partF (min t (k + o.size)) t (k + o.size) os := by
  have hm : min (t - k) o.size = min t (k + o.size) - k := by
    rw [Nat.min_def, Nat.min_def]; split <;> split <;> omega
  have hlt : s - k < min t (k + o.size) - k := by
    rw [Nat.min_def]; split <;> omega
  rw [partF, hm, if_pos hlt, List.singleton_append]
  congr 1
  by_cases ht : t ≤ k + o.size
  · rw [partF_past s t os _ ht, partF_past _ t os _ ht]
  · have : ∀ (os : List Dp) (j : Nat), k + o.size ≤ j → partF s t j os = partF (min t (k + o.size)) t j os := by
      intro os
      induction os with
      | nil => intros; rfl
      | cons x os ih =>
        intro j hj
        rw [partF, partF, show s - j = 0 by omega, show min t (k + o.size) - j = 0 by omega, ih _ (by omega)]
    exact this os _ (Nat.le_refl _)

/-! ### Compose -/
/-- What composing adds, in order. -/
def seqC (A B : List Dp) : List Dp := B.flatMap fun o => if o.copies then partF o.f.toNat (o.f + o.z).toNat 0 A else [o]
def compRes (base : Int) (A B : List Dp) : List Dp × Int :=
  if (ckRes base A).2 ≠ 0 then ([], (ckRes base A).2) else if (ckRes (ckRes base A).1 B).2 ≠ 0 then ([], (ckRes (ckRes base A).1 B).2) else
  if 4096 < (normD (seqC A B)).length then ([], 263) else (normD (seqC A B), 0)
theorem seqC_fine {A B : List Dp} (hA : ∀ o ∈ A, o.fine) (hB : ∀ o ∈ B, o.fine) : ∀ x ∈ seqC A B, x.fine := by
  intro x hx
  obtain ⟨o, ho, hx⟩ := List.mem_flatMap.1 hx
  split at hx
  · exact partF_fine _ _ A 0 hA x hx
  · rw [List.mem_singleton] at hx; subst hx; exact hB x ho
theorem seqC_length (A B : List Dp) : (seqC A B).length ≤ B.length * (A.length + 1) := by
  induction B with
  | nil => simp [seqC]
  | cons o B ih =>
    have : (seqC A (o :: B)).length = (if o.copies then partF o.f.toNat (o.f + o.z).toNat 0 A else [o]).length + (seqC A B).length := by simp [seqC]
    rw [this, List.length_cons, Nat.add_mul, Nat.one_mul]
    have h1 : (if o.copies then partF o.f.toNat (o.f + o.z).toNat 0 A else [o]).length ≤ A.length + 1 := by
      split
      · exact Nat.le_succ_of_le (partF_length _ _ A 0)
      · simp
    omega
theorem seqC_atoms {A : List Dp} (hA : ∀ o ∈ A, o.fine) : ∀ {B : List Dp}, (∀ o ∈ B, o.ok (sizeD A)) → atomsD (seqC A B) = compA (atomsD A) (atomsD B)
  | [], _ => rfl
  | o :: B, hB => by
    have h1 : seqC A (o :: B) = (if o.copies then partF o.f.toNat (o.f + o.z).toNat 0 A else [o]) ++ seqC A B := by simp [seqC]
    have h2 : compA (atomsD A) (atomsD (o :: B)) = o.atoms.map (Atom.subst (atomsD A)) ++ compA (atomsD A) (atomsD B) := by simp [compA, atomsD_cons]
    rw [h1, h2, atomsD_append, seqC_atoms hA (fun x hx => hB x (List.mem_cons_of_mem _ hx))]
    congr 1
    rcases hB o (List.mem_cons_self ..) with ⟨hc, hf, hz⟩ | hl
    · have hz1 : 1 ≤ o.z := by simp only [Dp.copies, Bool.and_eq_true, decide_eq_true_eq] at hc; exact hc.1
      rw [if_pos hc, partF_atoms _ _ A 0 hA, Nat.sub_zero, Nat.sub_zero]
      have h3 : o.atoms = srcs o.f.toNat o.z.toNat := by unfold Dp.atoms; rw [if_pos hc]
      rw [h3, srcs_subst _ _ _ (by rw [atomsD_length]; omega), show (o.f + o.z).toNat = o.f.toNat + o.z.toNat by omega, List.drop_take, Nat.add_sub_cancel_left]
    · have hc : o.copies = false := by
        cases h : o.copies with
        | false => rfl
        | true => rw [Dp.copies_not_literal h] at hl; cases hl
      rw [hc]
      simp only [Bool.false_eq_true, if_false]
      have h1 : o.atoms = o.l.map .lit := by unfold Dp.atoms; rw [hc]; rfl
      rw [show atomsD [o] = o.atoms by simp [atomsD], h1, List.map_map]
      rfl
theorem normD_length_le : ∀ (os acc : List Dp), (os.foldl addD acc).length ≤ acc.length + os.length
  | [], _ => by simp
  | o :: os, acc => by
    have h1 := normD_length_le os (addD acc o)
    have h2 := (addD_length acc o).2
    rw [List.foldl_cons, List.length_cons]
    omega
theorem normD_length_ge : ∀ (os acc : List Dp), acc.length ≤ (os.foldl addD acc).length
  | [], _ => Nat.le_refl _
  | o :: os, acc => by
    have h1 := normD_length_ge os (addD acc o)
    have h2 := (addD_length acc o).1
    rw [List.foldl_cons]
    omega
/-- What a right composition is. -/
theorem comp_norm {A B : List Dp} (hA : ∀ o ∈ A, o.fine) (hB : ∀ o ∈ B, o.ok (sizeD A)) : normD (seqC A B) = norm (compA (atomsD A) (atomsD B)) := by
  rw [normD_eq (seqC_fine hA fun o ho => (hB o ho).fine), seqC_atoms hA hB]
theorem comp_ok {base : Nat} {A B : List Dp} (hA : ∀ o ∈ A, o.ok base) (hB : ∀ o ∈ B, o.ok (sizeD A)) : (∀ o ∈ normD (seqC A B), o.ok base) ∧ sizeD (normD (seqC A B)) = sizeD B := by
  have h := comp_norm (fun o ho => (hA o ho).fine) hB
  rw [h]
  refine ⟨norm_ok (compA_below (atomsD_below hA) ?_), ?_⟩
  · rw [atomsD_length]; exact atomsD_below hB
  · rw [← atomsD_length, atoms_norm, compA, List.length_map, atomsD_length]
theorem comp_app {b : List UInt8} {A B : List Dp} (hA : ∀ o ∈ A, o.ok b.length) (hB : ∀ o ∈ B, o.ok (sizeD A)) : appD b (normD (seqC A B)) = appD (appD b A) B := by
  have h := comp_norm (fun o ho => (hA o ho).fine) hB
  have hlen : (appD b A).length = sizeD A := by rw [← atomsD_read hA, List.length_map, atomsD_length]
  rw [← atomsD_read (comp_ok hA hB).1, h, atoms_norm, compA_read (by rw [atomsD_length]; exact atomsD_below hB), atomsD_read hA, atomsD_read (by rw [hlen]; exact hB)]
theorem comp_assoc {base : Nat} {A B C : List Dp} (hA : ∀ o ∈ A, o.ok base) (hB : ∀ o ∈ B, o.ok (sizeD A)) (hC : ∀ o ∈ C, o.ok (sizeD B)) : normD (seqC (normD (seqC A B)) C) = normD (seqC A (normD (seqC B C))) := by
  have h1 := comp_ok hA hB
  have h2 := comp_ok hB hC
  rw [comp_norm (fun o ho => (h1.1 o ho).fine) (by rw [h1.2]; exact hC), comp_norm (fun o ho => (hA o ho).fine) h2.1,
    comp_norm (fun o ho => (hA o ho).fine) hB, comp_norm (fun o ho => (hB o ho).fine) hC, atoms_norm, atoms_norm, compA_assoc (by rw [atomsD_length]; exact atomsD_below hC)]
end Go.Proofs.Ytpiodpljiklfkaa
/-
  Plain laws of decoding deltas.
-/
namespace Go.Proofs.Ytpiodpljiklfkaa

/-- A number of at most m that begins the bytes: it and its length. -/
def numF (m : Nat) (l : List UInt8) : Option (Nat × Nat) := if (decU l).2.2 ≠ 0 ∨ m < (decU l).1 then none else some ((decU l).1, (decU l).2.1)
/-- An op that begins the bytes, and its length. -/
def opF (l : List UInt8) : Option (Dp × Nat) :=
  match numF 2097153 l with
  | none => none
  | some (k, j) =>
    if k % 2 = 1 then
      match numF 1048576 (l.drop j) with
      | none => none
      | some (f, i) => some (⟨f, ((k / 2 : Nat) : Int), []⟩, j + i)
    else if l.length - j < k / 2 then none else some (⟨0, 0, (l.drop j).take (k / 2)⟩, j + k / 2)
/-- n ops that begin the bytes, and their length. -/
def opsF : Nat → List UInt8 → Option (List Dp × Nat)
  | 0, _ => some ([], 0)
  | n + 1, l =>
    match opF l with
    | none => none
    | some (o, j) =>
      match opsF n (l.drop j) with
      | none => none
      | some (os, i) => some (o :: os, j + i)
def decD (base : Int) (l : List UInt8) : Option (List Dp) :=
  match numF 4096 l with
  | none => none
  | some (n, j) =>
    match opsF n (l.drop j) with
    | none => none
    | some (os, i) => if (ckRes base os).2 = 0 ∧ j + i = l.length then some os else none
def decDRes (base : Int) (l : List UInt8) : List Dp × Int := match decD base l with
  | none => ([], 264)
  | some os => (os, 0)

theorem numF_some {m : Nat} {l : List UInt8} {v j : Nat} (h : numF m l = some (v, j)) : decU l = (v, j, 0) ∧ v ≤ m ∧ 0 < j ∧ j ≤ l.length := by
  unfold numF at h
  split at h
  · cases h
  · rename_i hn
    simp only [Option.some.injEq, Prod.mk.injEq] at h
    obtain ⟨h1, h2⟩ := h
    rcases decU_spec l with ⟨v', j', hd, -, h3, h4, -⟩ | ⟨e, hd, he⟩
    · rw [hd] at h1 h2 hn ⊢
      simp only at h1 h2 hn
      subst h1 h2
      exact ⟨rfl, by omega, h3, h4⟩
    · rw [hd] at hn
      simp only at hn
      rcases he with rfl | rfl <;> simp at hn
theorem numF_mk {m : Nat} {l : List UInt8} {v j : Nat} (h : decU l = (v, j, 0)) (hv : v ≤ m) : numF m l = some (v, j) := by
  unfold numF
  rw [h, if_neg (by simp; omega)]
theorem opF_le {l : List UInt8} {o : Dp} {j : Nat} (h : opF l = some (o, j)) : 0 < j ∧ j ≤ l.length := by
  unfold opF at h
  split at h
  · cases h
  · rename_i k i hk
    obtain ⟨-, -, h1, h2⟩ := numF_some hk
    split at h
    · split at h
      · cases h
      · rename_i f i2 hf
        obtain ⟨-, -, h3, h4⟩ := numF_some hf
        simp only [Option.some.injEq, Prod.mk.injEq] at h
        rw [List.length_drop] at h4
        omega
    · split at h
      · cases h
      · simp only [Option.some.injEq, Prod.mk.injEq] at h
        omega
theorem opsF_le : ∀ (n : Nat) (l : List UInt8) (os : List Dp) (j : Nat), opsF n l = some (os, j) → j ≤ l.length ∧ os.length = n
  | 0, l, os, j, h => by
    simp only [opsF, Option.some.injEq, Prod.mk.injEq] at h
    obtain ⟨rfl, rfl⟩ := h
    exact ⟨Nat.zero_le _, rfl⟩
  | n + 1, l, os, j, h => by
    unfold opsF at h
    split at h
    · cases h
    · rename_i o j1 ho
      split at h
      · cases h
      · rename_i os2 i2 hs
        simp only [Option.some.injEq, Prod.mk.injEq] at h
        obtain ⟨rfl, rfl⟩ := h
        have h1 := opF_le ho
        have h2 := opsF_le n _ _ _ hs
        rw [List.length_drop] at h2
        exact ⟨by omega, by rw [List.length_cons, h2.2]⟩

/-! ### An encoding is decoded as what was encoded -/
theorem opF_enc {o : Dp} {n : Nat} (ho : o.ok n) (hn : n ≤ 1048576) (hs : o.size ≤ 1048576) (r : List UInt8) : opF (o.enc ++ r) = some (o, o.enc.length) := by
  unfold Dp.enc opF
  by_cases hc : o.copies = true
  · have hz1 : 1 ≤ o.z := by simp only [Dp.copies, Bool.and_eq_true, decide_eq_true_eq] at hc; exact hc.1
    have hl : o.l = [] := by simp only [Dp.copies, Bool.and_eq_true, decide_eq_true_eq, List.isEmpty_iff] at hc; exact hc.2
    have hf : 0 ≤ o.f ∧ o.f + o.z ≤ n := by
      rcases ho with h | h
      · exact h.2
      · rw [Dp.copies_not_literal hc] at h; cases h
    rw [if_pos hc, List.append_assoc, numF_mk (decU_enc (v := 2 * o.z.toNat + 1) (by omega) _) (by omega)]
    simp only
    rw [if_pos (by omega), List.drop_left, numF_mk (decU_enc (v := o.f.toNat) (by omega) _) (by omega)]
    simp only [List.length_append, Option.some.injEq, Prod.mk.injEq, and_true]
    obtain ⟨f, z, l⟩ := o
    simp only at hl hf hz1 ⊢
    subst hl
    rw [show (2 * z.toNat + 1) / 2 = z.toNat by omega]
    congr 1 <;> omega
  · have hc' : o.copies = false := by simpa using hc
    have hl : o.literal = true := by
      rcases ho with h | h
      · exact absurd h.1 hc
      · exact h
    have hsz : o.l.length ≤ 1048576 := by unfold Dp.size at hs; rw [hc'] at hs; exact hs
    rw [hc']
    simp only [Bool.false_eq_true, if_false]
    rw [List.append_assoc, numF_mk (decU_enc (v := 2 * o.l.length) (by omega) _) (by omega)]
    simp only
    rw [if_neg (by omega), List.drop_left, if_neg (by simp), show 2 * o.l.length / 2 = o.l.length by omega, List.take_left]
    simp only [Dp.literal, Bool.and_eq_true, decide_eq_true_eq] at hl
    obtain ⟨f, z, l⟩ := o
    obtain ⟨⟨h1, h2⟩, -⟩ := hl
    simp only at h1 h2
    subst h1 h2
    simp
theorem opsF_enc {n : Nat} (hn : n ≤ 1048576) : ∀ (os : List Dp) (r : List UInt8), (∀ o ∈ os, o.ok n) → (∀ o ∈ os, o.size ≤ 1048576) → opsF os.length (encOps os ++ r) = some (os, (encOps os).length)
  | [], r, _, _ => rfl
  | o :: os, r, h, h2 => by
    have he : encOps (o :: os) = o.enc ++ encOps os := by simp [encOps]
    rw [he, List.length_cons, List.append_assoc]
    unfold opsF
    rw [opF_enc (h o (List.mem_cons_self ..)) hn (h2 o (List.mem_cons_self ..))]
    simp only
    rw [List.drop_left, opsF_enc hn os r (fun x hx => h x (List.mem_cons_of_mem _ hx)) (fun x hx => h2 x (List.mem_cons_of_mem _ hx))]
    simp
theorem sizeD_mem {os : List Dp} {o : Dp} (h : o ∈ os) : o.size ≤ sizeD os := by
  obtain ⟨A, B, hAB⟩ := List.append_of_mem h
  rw [hAB]; simp [sizeD]; omega
theorem decD_enc {base : Int} {os : List Dp} (h : (ckRes base os).2 = 0) : decD base (encD os) = some os := by
  have hk : ckRes base os = ((ckRes base os).1, 0) := by rw [← h]
  obtain ⟨h1, h2, h3, h4, h5, h6⟩ := ckRes_ok hk
  obtain ⟨b, rfl⟩ := Int.eq_ofNat_of_zero_le h4
  unfold decD encD
  rw [numF_mk (decU_enc (v := os.length) (by omega) _) h6]
  simp only
  rw [List.drop_left]
  have := opsF_enc (n := b) (by omega) os [] h1 (fun o ho => Nat.le_trans (sizeD_mem ho) h3)
  rw [List.append_nil] at this
  rw [this]
  simp only
  rw [if_pos ⟨h, by rw [List.length_append]⟩]
end Go.Proofs.Ytpiodpljiklfkaa
