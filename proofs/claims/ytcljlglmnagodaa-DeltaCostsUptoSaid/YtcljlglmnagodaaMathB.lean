/-
  Plain laws of layer 1: encoding and decoding are inverse; no encoding begins another one; folding of signs.
-/
import Derived.Test.YtcljlglmnagodaaMathA
import Derived.Lib.Zigzag
namespace Go.Proofs.Ytcljlglmnagodaa

theorem decF_enc (v : Nat) : ∀ (i acc : Nat) (r : List UInt8), (i = 0 ∨ 0 < v) → v * 128 ^ i < 2 ^ 64 → i ≤ 9 → decF i acc (enc v ++ r) = (acc + v * 128 ^ i, i + (enc v).length, 0) := by
  induction v using Nat.strongRecOn with
  | _ v ih =>
  intro i acc r h0 hb hi
  have h9 : i = 9 → v ≤ 1 := by
    rintro rfl
    have h2 : (128 : Nat) ^ 9 = 2 ^ 63 := by decide
    rw [h2] at hb
    omega
  by_cases h : v < 128
  · rw [enc_lt h, List.cons_append, decF]
    have hc : (UInt8.ofNat v).toNat = v := by rw [UInt8.toNat_ofNat']; exact Nat.mod_eq_of_lt (by omega)
    rw [hc, if_neg (by omega), if_neg (by omega), if_neg (by omega), Nat.mod_eq_of_lt h]
    rfl
  · rw [enc_ge (by omega), List.cons_append, decF]
    have hc : (UInt8.ofNat (v % 128 + 128)).toNat = v % 128 + 128 := by rw [UInt8.toNat_ofNat']; exact Nat.mod_eq_of_lt (by omega)
    rw [hc, if_neg (by omega), if_pos (by omega)]
    have e1 : (v % 128 + 128) % 128 = v % 128 := by omega
    have e2 : v * 128 ^ i = v % 128 * 128 ^ i + v / 128 * 128 ^ (i + 1) := by
      have : v = v % 128 + v / 128 * 128 := by omega
      rw [Nat.pow_succ, Nat.mul_comm (128 ^ i) 128, ← Nat.mul_assoc, ← Nat.add_mul, ← this]
    have hi9 : i ≠ 9 := fun e => by have := h9 e; omega
    rw [e1, ih (v / 128) (by omega) (i + 1) _ r (.inr (by omega)) (by omega) (by omega), e2]
    simp only [List.length_cons, Prod.mk.injEq, and_true]
    omega

theorem decU_enc {v : Nat} (hv : v ≤ 18446744073709551615) (r : List UInt8) : decU (enc v ++ r) = (v, (enc v).length, 0) := by
  have := decF_enc v 0 0 r (.inl rfl) (by simp; omega) (by omega)
  simpa [decU] using this

theorem decF_is (l : List UInt8) : ∀ (i acc V j : Nat), decF i acc l = (V, j, 0) → ∃ v, V = acc + v * 128 ^ i ∧ j = i + (enc v).length ∧ (∃ r, l = enc v ++ r) ∧ (i = 0 ∨ 0 < v) := by
  induction l with
  | nil => intro i acc V j h; simp [decF] at h
  | cons c t ih =>
    intro i acc V j h
    rw [decF] at h
    split at h
    · simp at h
    · split at h
      · rename_i h128
        obtain ⟨v, hV, hj, ⟨r, hr⟩, hv⟩ := ih _ _ _ _ h
        have hv' : 0 < v := by omega
        refine ⟨c.toNat % 128 + 128 * v, ?_, ?_, ⟨r, ?_⟩, .inr (by omega)⟩
        · rw [hV, Nat.pow_succ, Nat.add_mul, Nat.mul_comm 128 v, Nat.mul_assoc v 128, Nat.mul_comm 128 (128 ^ i)]; omega
        · rw [enc_len_ge (by omega), show (c.toNat % 128 + 128 * v) / 128 = v by omega, hj]; omega
        · rw [enc_ge (by omega), show (c.toNat % 128 + 128 * v) / 128 = v by omega, show (c.toNat % 128 + 128 * v) % 128 + 128 = c.toNat by have := c.toNat_lt; omega, UInt8.ofNat_toNat, hr]
          rfl
      · split at h
        · simp at h
        · rename_i h128 hz
          simp only [Prod.mk.injEq] at h
          refine ⟨c.toNat, ?_, ?_, ⟨t, ?_⟩, by omega⟩
          · rw [← h.1, Nat.mod_eq_of_lt (by omega)]
          · rw [enc_len_lt (by omega), ← h.2.1]
          · rw [enc_lt (by omega), UInt8.ofNat_toNat]; rfl

theorem decU_is {l : List UInt8} {v j : Nat} (h : decU l = (v, j, 0)) : j = (enc v).length ∧ ∃ r, l = enc v ++ r := by
  obtain ⟨u, hu, hj, hr, _⟩ := decF_is l 0 0 v j h
  obtain rfl : v = u := by simpa using hu
  exact ⟨by omega, hr⟩

theorem enc_inj {v w : Nat} (hv : v ≤ 18446744073709551615) (hw : w ≤ 18446744073709551615) {r s : List UInt8} (h : enc v ++ r = enc w ++ s) : v = w := by
  have a := decU_enc hv r
  have b := decU_enc hw s
  rw [h, b] at a
  exact ((Prod.mk.inj a).1).symm

theorem enc_mono (v : Nat) : ∀ w, v ≤ w → (enc v).length ≤ (enc w).length := by
  induction v using Nat.strongRecOn with
  | _ v ih =>
  intro w h
  by_cases hv : v < 128
  · rw [enc_len_lt hv]; exact enc_pos w
  · rw [enc_len_ge (by omega), enc_len_ge (v := w) (by omega)]
    have := ih (v / 128) (by omega) (w / 128) (by omega)
    omega

/-- Two numbers whose encodings agree as far as both go are equal. -/
theorem enc_take {v w : Nat} (hv : v ≤ 18446744073709551615) (hw : w ≤ 18446744073709551615) (h : (enc v).take (min (enc v).length (enc w).length) = (enc w).take (min (enc v).length (enc w).length)) : v = w := by
  rcases Nat.le_total (enc v).length (enc w).length with hl | hl
  · rw [Nat.min_eq_left hl, List.take_length] at h
    refine enc_inj hv hw (r := (enc w).drop (enc v).length) (s := []) ?_
    rw [List.append_nil]
    have e := List.take_append_drop (enc v).length (enc w)
    rw [← h] at e
    exact e
  · rw [Nat.min_eq_right hl, List.take_length] at h
    refine enc_inj hv hw (r := []) (s := (enc v).drop (enc w).length) ?_
    rw [List.append_nil]
    have e := List.take_append_drop (enc w).length (enc v)
    rw [h] at e
    exact e.symm

theorem unzig_zig (n : Int) : unzig (Lib.zigzag n) = n := by
  unfold unzig Lib.zigzag
  split <;> split <;> omega
theorem zig_unzig (u : Nat) : Lib.zigzag (unzig u) = u := by
  unfold unzig Lib.zigzag
  split <;> split <;> omega
theorem unzig_bd {u : Nat} (h : u ≤ 18446744073709551615) : -9223372036854775808 ≤ unzig u ∧ unzig u ≤ 9223372036854775807 := by
  unfold unzig
  split <;> omega
theorem zig_bd {n : Int} (h0 : -9223372036854775808 ≤ n) (h1 : n ≤ 9223372036854775807) : Lib.zigzag n ≤ 18446744073709551615 := by
  have := Lib.zigzag_lt h0 h1
  omega

/-- Uint at a place where an encoding lies. -/
theorem uintRes_enc {v : Nat} (hv : v ≤ 18446744073709551615) (p r : List UInt8) : uintRes (p ++ (enc v ++ r)) (p.length : Int) = (v, (p.length : Int) + (enc v).length, 0) := by
  refine uintRes_ok (by simp) ?_
  rw [List.drop_left]
  exact decU_enc hv r
theorem intRes_enc {n : Int} (h0 : -9223372036854775808 ≤ n) (h1 : n ≤ 9223372036854775807) (p r : List UInt8) : intRes (p ++ (enc (Lib.zigzag n) ++ r)) (p.length : Int) = (n, (p.length : Int) + (enc (Lib.zigzag n)).length, 0) := by
  simp only [intRes, uintRes_enc (zig_bd h0 h1), if_true, unzig_zig]

theorem uintRes_enc0 {v : Nat} (hv : v ≤ 18446744073709551615) : uintRes (enc v) 0 = (v, ((enc v).length : Int), 0) := by
  have := uintRes_enc hv [] []
  simpa using this
theorem intRes_enc0 {v : Nat} (hv : v ≤ 18446744073709551615) : intRes (enc v) 0 = (unzig v, ((enc v).length : Int), 0) := by
  simp only [intRes, uintRes_enc0 hv, if_true]

/-- A proper beginning of an encoding: all its bytes go on. -/
theorem enc_front (v : Nat) : ∀ k, k < (enc v).length → ((enc v).take k).all (fun x => decide (128 ≤ x.toNat)) = true := by
  induction v using Nat.strongRecOn with
  | _ v ih =>
  intro k hk
  by_cases h : v < 128
  · rw [enc_len_lt h] at hk
    obtain rfl : k = 0 := by omega
    rfl
  · rw [enc_len_ge (by omega)] at hk
    rw [enc_ge (by omega)]
    cases k with
    | zero => rfl
    | succ k =>
      rw [List.take_succ_cons, List.all_cons, ih (v / 128) (by omega) k (by omega)]
      have hc : (UInt8.ofNat (v % 128 + 128)).toNat = v % 128 + 128 := by rw [UInt8.toNat_ofNat']; exact Nat.mod_eq_of_lt (by omega)
      rw [hc]
      simp

theorem text_short {s : List UInt8} (hs : s.length ≤ 18446744073709551615) {k : Nat} (hk : k < (enc s.length ++ s).length) : textRes ((enc s.length ++ s).take k) 0 s.length = ([], 0, 11) := by
  rw [List.length_append] at hk
  by_cases h : k < (enc s.length).length
  · have e : (enc s.length ++ s).take k = (enc s.length).take k := by rw [List.take_append_of_le_length (by omega)]
    have hu : uintRes ((enc s.length).take k) ((0 : Nat) : Int) = (0, 0, 11) := by
      refine uintRes_no (Nat.zero_le _) ?_ (by decide)
      rw [List.drop_zero]
      refine decU_open ?_
      simp only [openB, enc_front _ _ h, Bool.true_and, decide_eq_true_eq, List.length_take]
      have := enc_le10 hs
      omega
    rw [e]
    simp only [textRes, show (0 : Int) = ((0 : Nat) : Int) from rfl, hu]
    rw [if_pos (by decide)]
  · have e : (enc s.length ++ s).take k = enc s.length ++ s.take (k - (enc s.length).length) := by
      rw [List.take_append, List.take_of_length_le (by omega)]
    have hu := uintRes_enc (v := s.length) hs [] (s.take (k - (enc s.length).length))
    simp only [List.nil_append, List.length_nil] at hu
    rw [e]
    simp only [textRes, show (0 : Int) = ((0 : Nat) : Int) from rfl, hu]
    rw [if_neg (by simp), if_neg (by omega), if_pos (by rw [List.length_append, List.length_take]; omega)]

theorem text_back (p s r : List UInt8) (hs : s.length ≤ 18446744073709551615) (most : Int) :
    textRes (p ++ (enc s.length ++ (s ++ r))) p.length most = if max most 0 < (s.length : Int) then ([], 0, 13) else (s, (p.length : Int) + (enc s.length).length + s.length, 0) := by
  have hu := uintRes_enc (v := s.length) hs p (s ++ r)
  simp only [textRes, hu]
  rw [if_neg (by simp)]
  by_cases h : max most 0 < (s.length : Int)
  · rw [if_pos h, if_pos h]
  · rw [if_neg h, if_neg h, if_neg (by simp only [List.length_append]; omega)]
    have e : ((p.length : Int) + ((enc s.length).length : Int)).toNat = (p ++ enc s.length).length := by rw [List.length_append]; omega
    rw [e, ← List.append_assoc, List.drop_left, List.take_left]

theorem bool_back (p r : List UInt8) (v : Bool) : boolRes (p ++ (([if v then 1 else 0] : List UInt8) ++ r)) p.length = (v, (p.length : Int) + 1, 0) := by
  unfold boolRes
  rw [if_neg (by simp only [List.length_append]; omega), Int.toNat_natCast, List.getElem?_append_right (Nat.le_refl _)]
  cases v <;> simp

/-- A number that was decoded is encoded as the bytes that it was decoded from. -/
theorem dec_bytes {l : List UInt8} {k v j : Nat} (hd : decU (l.drop k) = (v, j, 0)) : l.take k ++ enc v = l.take (k + j) := by
  obtain ⟨hj, r, hr⟩ := decU_is hd
  rw [List.take_add, hr, hj, List.take_left]

theorem uintRes_cases_in (l : List UInt8) (k : Nat) (hk : k ≤ l.length) :
    (∃ v j : Nat, uintRes l (k : Int) = (v, (k : Int) + j, 0) ∧ v ≤ 18446744073709551615 ∧ 0 < j ∧ k + j ≤ l.length ∧ decU (l.drop k) = (v, j, 0)) ∨
      uintRes l (k : Int) = (0, 0, 11) ∨ uintRes l (k : Int) = (0, 0, 12) := by
  rcases decU_spec (l.drop k) with ⟨v, j, hd, h1, h2, h3, h4⟩ | ⟨e, hd, he⟩
  · rw [List.length_drop] at h3
    exact .inl ⟨v, j, uintRes_ok hk hd, h1, h2, by omega, hd⟩
  · right
    rcases he with rfl | rfl
    · exact .inl (uintRes_no hk hd (by decide))
    · exact .inr (uintRes_no hk hd (by decide))

end Go.Proofs.Ytcljlglmnagodaa
