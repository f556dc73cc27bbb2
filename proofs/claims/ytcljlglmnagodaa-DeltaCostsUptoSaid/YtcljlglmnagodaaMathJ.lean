/-
  Plain laws of decoding deltas.
-/
import Derived.Test.YtcljlglmnagodaaMathH
import Derived.Test.YtcljlglmnagodaaMathB
namespace Go.Proofs.Ytcljlglmnagodaa

/-- A number of at most m that begins the bytes: it and its length. -/
def numF (m : Nat) (l : List UInt8) : Option (Nat × Nat) := if (decU l).2.2 ≠ 0 ∨ m < (decU l).1 then none else some ((decU l).1, (decU l).2.1)
/-- An op that begins the bytes, and its length. -/
def opF (l : List UInt8) : Option (Dp × Nat) :=
  match numF 2097153 l with
  | none => none
  | some (k, j) =>
    if k % 2 = 1 then
      match numF 1048576 (l.drop j) with
      | none => none
      | some (f, i) => some (⟨f, ((k / 2 : Nat) : Int), []⟩, j + i)
    else if l.length - j < k / 2 then none else some (⟨0, 0, (l.drop j).take (k / 2)⟩, j + k / 2)
/-- n ops that begin the bytes, and their length. -/
def opsF : Nat → List UInt8 → Option (List Dp × Nat)
  | 0, _ => some ([], 0)
  | n + 1, l =>
    match opF l with
    | none => none
    | some (o, j) =>
      match opsF n (l.drop j) with
      | none => none
      | some (os, i) => some (o :: os, j + i)
def decD (base : Int) (l : List UInt8) : Option (List Dp) :=
  match numF 4096 l with
  | none => none
  | some (n, j) =>
    match opsF n (l.drop j) with
    | none => none
    | some (os, i) => if (ckRes base os).2 = 0 ∧ j + i = l.length then some os else none
def decDRes (base : Int) (l : List UInt8) : List Dp × Int := match decD base l with
  | none => ([], 264)
  | some os => (os, 0)

theorem numF_some {m : Nat} {l : List UInt8} {v j : Nat} (h : numF m l = some (v, j)) : decU l = (v, j, 0) ∧ v ≤ m ∧ 0 < j ∧ j ≤ l.length := by
  unfold numF at h
  split at h
  · cases h
  · rename_i hn
    simp only [Option.some.injEq, Prod.mk.injEq] at h
    obtain ⟨h1, h2⟩ := h
    rcases decU_spec l with ⟨v', j', hd, -, h3, h4, -⟩ | ⟨e, hd, he⟩
    · rw [hd] at h1 h2 hn ⊢
      simp only at h1 h2 hn
      subst h1 h2
      exact ⟨rfl, by omega, h3, h4⟩
    · rw [hd] at hn
      simp only at hn
      rcases he with rfl | rfl <;> simp at hn
theorem numF_mk {m : Nat} {l : List UInt8} {v j : Nat} (h : decU l = (v, j, 0)) (hv : v ≤ m) : numF m l = some (v, j) := by
  unfold numF
  rw [h, if_neg (by simp; omega)]
theorem opF_le {l : List UInt8} {o : Dp} {j : Nat} (h : opF l = some (o, j)) : 0 < j ∧ j ≤ l.length := by
  unfold opF at h
  split at h
  · cases h
  · rename_i k i hk
    obtain ⟨-, -, h1, h2⟩ := numF_some hk
    split at h
    · split at h
      · cases h
      · rename_i f i2 hf
        obtain ⟨-, -, h3, h4⟩ := numF_some hf
        simp only [Option.some.injEq, Prod.mk.injEq] at h
        rw [List.length_drop] at h4
        omega
    · split at h
      · cases h
      · simp only [Option.some.injEq, Prod.mk.injEq] at h
        omega
theorem opsF_le : ∀ (n : Nat) (l : List UInt8) (os : List Dp) (j : Nat), opsF n l = some (os, j) → j ≤ l.length ∧ os.length = n
  | 0, l, os, j, h => by
    simp only [opsF, Option.some.injEq, Prod.mk.injEq] at h
    obtain ⟨rfl, rfl⟩ := h
    exact ⟨Nat.zero_le _, rfl⟩
  | n + 1, l, os, j, h => by
    unfold opsF at h
    split at h
    · cases h
    · rename_i o j1 ho
      split at h
      · cases h
      · rename_i os2 i2 hs
        simp only [Option.some.injEq, Prod.mk.injEq] at h
        obtain ⟨rfl, rfl⟩ := h
        have h1 := opF_le ho
        have h2 := opsF_le n _ _ _ hs
        rw [List.length_drop] at h2
        exact ⟨by omega, by rw [List.length_cons, h2.2]⟩

/-! ### An encoding is decoded as what was encoded -/
theorem opF_enc {o : Dp} {n : Nat} (ho : o.ok n) (hn : n ≤ 1048576) (hs : o.size ≤ 1048576) (r : List UInt8) : opF (o.enc ++ r) = some (o, o.enc.length) := by
  unfold Dp.enc opF
  by_cases hc : o.copies = true
  · have hz1 : 1 ≤ o.z := by simp only [Dp.copies, Bool.and_eq_true, decide_eq_true_eq] at hc; exact hc.1
    have hl : o.l = [] := by simp only [Dp.copies, Bool.and_eq_true, decide_eq_true_eq, List.isEmpty_iff] at hc; exact hc.2
    have hf : 0 ≤ o.f ∧ o.f + o.z ≤ n := by
      rcases ho with h | h
      · exact h.2
      · rw [Dp.copies_not_literal hc] at h; cases h
    rw [if_pos hc, List.append_assoc, numF_mk (decU_enc (v := 2 * o.z.toNat + 1) (by omega) _) (by omega)]
    simp only
    rw [if_pos (by omega), List.drop_left, numF_mk (decU_enc (v := o.f.toNat) (by omega) _) (by omega)]
    simp only [List.length_append, Option.some.injEq, Prod.mk.injEq, and_true]
    obtain ⟨f, z, l⟩ := o
    simp only at hl hf hz1 ⊢
    subst hl
    rw [show (2 * z.toNat + 1) / 2 = z.toNat by omega]
    congr 1 <;> omega
  · have hc' : o.copies = false := by simpa using hc
    have hl : o.literal = true := by
      rcases ho with h | h
      · exact absurd h.1 hc
      · exact h
    have hsz : o.l.length ≤ 1048576 := by unfold Dp.size at hs; rw [hc'] at hs; exact hs
    rw [hc']
    simp only [Bool.false_eq_true, if_false]
    rw [List.append_assoc, numF_mk (decU_enc (v := 2 * o.l.length) (by omega) _) (by omega)]
    simp only
    rw [if_neg (by omega), List.drop_left, if_neg (by simp), show 2 * o.l.length / 2 = o.l.length by omega, List.take_left]
    simp only [Dp.literal, Bool.and_eq_true, decide_eq_true_eq] at hl
    obtain ⟨f, z, l⟩ := o
    obtain ⟨⟨h1, h2⟩, -⟩ := hl
    simp only at h1 h2
    subst h1 h2
    simp
theorem opsF_enc {n : Nat} (hn : n ≤ 1048576) : ∀ (os : List Dp) (r : List UInt8), (∀ o ∈ os, o.ok n) → (∀ o ∈ os, o.size ≤ 1048576) → opsF os.length (encOps os ++ r) = some (os, (encOps os).length)
  | [], r, _, _ => rfl
  | o :: os, r, h, h2 => by
    have he : encOps (o :: os) = o.enc ++ encOps os := by simp [encOps]
    rw [he, List.length_cons, List.append_assoc]
    unfold opsF
    rw [opF_enc (h o (List.mem_cons_self ..)) hn (h2 o (List.mem_cons_self ..))]
    simp only
    rw [List.drop_left, opsF_enc hn os r (fun x hx => h x (List.mem_cons_of_mem _ hx)) (fun x hx => h2 x (List.mem_cons_of_mem _ hx))]
    simp
theorem sizeD_mem {os : List Dp} {o : Dp} (h : o ∈ os) : o.size ≤ sizeD os := by
  obtain ⟨A, B, hAB⟩ := List.append_of_mem h
  rw [hAB]; simp [sizeD]; omega
theorem decD_enc {base : Int} {os : List Dp} (h : (ckRes base os).2 = 0) : decD base (encD os) = some os := by
  have hk : ckRes base os = ((ckRes base os).1, 0) := by rw [← h]
  obtain ⟨h1, h2, h3, h4, h5, h6⟩ := ckRes_ok hk
  obtain ⟨b, rfl⟩ := Int.eq_ofNat_of_zero_le h4
  unfold decD encD
  rw [numF_mk (decU_enc (v := os.length) (by omega) _) h6]
  simp only
  rw [List.drop_left]
  have := opsF_enc (n := b) (by omega) os [] h1 (fun o ho => Nat.le_trans (sizeD_mem ho) h3)
  rw [List.append_nil] at this
  rw [this]
  simp only
  rw [if_pos ⟨h, by rw [List.length_append]⟩]
end Go.Proofs.Ytcljlglmnagodaa
