/-
  Plain laws of the encoding of deltas, and what it costs.
-/
import Derived.Test.YtcljlglmnagodaaMathG
namespace Go.Proofs.Ytcljlglmnagodaa

def Dp.enc (o : Dp) : List UInt8 := if o.copies then Proofs.Ytcljlglmnagodaa.enc (2 * o.z.toNat + 1) ++ Proofs.Ytcljlglmnagodaa.enc o.f.toNat else Proofs.Ytcljlglmnagodaa.enc (2 * o.l.length) ++ o.l
def encOps (os : List Dp) : List UInt8 := os.flatMap Dp.enc
def encD (os : List Dp) : List UInt8 := enc os.length ++ encOps os
def fineB (o : Dp) : Bool := (o.copies && decide (0 ≤ o.f)) || o.literal
theorem fineB_iff {o : Dp} : fineB o = true ↔ o.fine := by
  unfold fineB Dp.fine
  simp only [Bool.or_eq_true, Bool.and_eq_true, decide_eq_true_eq]
def costD (os : List Dp) : Nat := if os.all fineB then (encD os).length else 0

theorem enc_two {v : Nat} (h : v < 16384) : (enc v).length ≤ 2 := enc_le 1 v h
theorem enc_copy {o : Dp} {n : Nat} (hc : o.copies = true) (h4 : 4 ≤ o.z) (hz : o.z ≤ n) (hf : o.f ≤ n) (hn : n ≤ 2048) : o.enc.length + 1 ≤ o.size := by
  unfold Dp.enc Dp.size
  rw [if_pos hc, if_pos hc, List.length_append]
  have h2 := enc_two (v := o.f.toNat) (by omega)
  have h3 := enc_two (v := 2 * o.z.toNat + 1) (by omega)
  by_cases hk : o.z.toNat < 64
  · rw [enc_len_lt (by omega)]; omega
  · omega
theorem enc_lit {o : Dp} (hc : o.copies = false) (hl : o.l.length ≤ 2048) : 64 * o.enc.length ≤ 65 * o.size + 64 := by
  unfold Dp.enc Dp.size
  rw [hc]
  simp only [Bool.false_eq_true, if_false, List.length_append]
  have h2 := enc_two (v := 2 * o.l.length) (by omega)
  by_cases hk : o.l.length < 64
  · rw [enc_len_lt (by omega)]; omega
  · omega
theorem nm_tail {o : Dp} {os : List Dp} (h : Nm (o :: os)) : Nm os := by
  refine ⟨?_, fun x hx => h.2 x (List.mem_cons_of_mem _ hx)⟩
  have := h.1
  cases os with
  | nil => trivial
  | cons y os => exact this.2
/-- The encoding of ops; the first is a copy, or it is not known. -/
theorem encOps_le {n : Nat} (hn : n ≤ 2048) : ∀ (os : List Dp), Nm os → (∀ o ∈ os, o.z ≤ n ∧ o.f ≤ n ∧ o.l.length ≤ 2048) → (∀ o ∈ os, 1 ≤ o.z → 4 ≤ o.z) →
    64 * (encOps os).length ≤ 65 * sizeD os + 64 ∧ ((∀ o, os.head? = some o → 1 ≤ o.z) → 64 * (encOps os).length ≤ 65 * sizeD os)
  | [], _, _, _ => by simp [encOps, sizeD]
  | o :: os, h, hb, h4 => by
    obtain ⟨ih1, ih2⟩ := encOps_le hn os (nm_tail h) (fun x hx => hb x (List.mem_cons_of_mem _ hx)) (fun x hx => h4 x (List.mem_cons_of_mem _ hx))
    have hs : sizeD (o :: os) = o.size + sizeD os := by simp [sizeD]
    have he : (encOps (o :: os)).length = o.enc.length + (encOps os).length := by simp [encOps]
    rw [hs, he]
    obtain ⟨b1, b2, b3⟩ := hb o (List.mem_cons_self ..)
    rcases h.2 o (List.mem_cons_self ..) with ⟨h1, h2, h3⟩ | ⟨h1, h2, h3⟩
    · have hc : o.copies = true := by simp [Dp.copies, h1, h3]
      have := enc_copy hc (h4 o (List.mem_cons_self ..) h1) b1 b2 hn
      exact ⟨by omega, fun _ => by omega⟩
    · have hc : o.copies = false := by simp [Dp.copies]; omega
      have h5 := enc_lit hc b3
      have h6 := ih2 (fun y hy => by
        cases os with
        | nil => cases hy
        | cons z os =>
          cases hy
          have ha := h.1.1
          unfold apartD at ha
          rcases h.2 y (List.mem_cons_of_mem _ (List.mem_cons_self ..)) with ⟨g1, _⟩ | ⟨g1, _⟩
          · exact g1
          · exact absurd ⟨h1, g1⟩ ha.1)
      exact ⟨by omega, fun hh => by have := hh o rfl; omega⟩
theorem make_cost {b T : List UInt8} (hb : b.length ≤ 2048) (hT : T.length ≤ 2048) : costD (makeD b T) ≤ T.length + T.length / 2 + 4 := by
  have h := make_inv b T
  have hsz := make_size b T
  unfold costD
  split
  · unfold encD
    rw [List.length_append]
    have hlen : (makeD b T).length ≤ sizeD (makeD b T) := by
      have : ∀ os : List Dp, (∀ o ∈ os, o.nice) → os.length ≤ sizeD os := by
        intro os
        induction os with
        | nil => intro _; exact Nat.zero_le _
        | cons o os ih =>
          intro hh
          have h1 := ih (fun x hx => hh x (List.mem_cons_of_mem _ hx))
          have hs : sizeD (o :: os) = o.size + sizeD os := by simp [sizeD]
          have h2 : 1 ≤ o.size := by
            rcases hh o (List.mem_cons_self ..) with ⟨h1, h2, h3⟩ | ⟨h1, h2, h3⟩
            · have hc : o.copies = true := by simp [Dp.copies, h1, h3]
              unfold Dp.size; rw [if_pos hc]; omega
            · have hc : o.copies = false := by simp [Dp.copies]; omega
              unfold Dp.size; rw [hc]
              exact List.length_pos_iff.2 h3
          rw [hs, List.length_cons]; omega
      exact this _ h.nm.2
    have h1 := enc_two (v := (makeD b T).length) (by omega)
    have h2 := (encOps_le (n := 2048) (Nat.le_refl _) (makeD b T) h.nm (fun o ho => by
      have hs : o.size ≤ sizeD (makeD b T) := by
        obtain ⟨A, B, hAB⟩ := List.append_of_mem ho
        rw [hAB]; simp [sizeD]; omega
      rcases h.nm.2 o ho with ⟨g1, g2, g3⟩ | ⟨g1, g2, g3⟩
      · have hc : o.copies = true := by simp [Dp.copies, g1, g3]
        rcases h.ok o ho with ⟨_, k1, k2⟩ | k
        · exact ⟨by omega, by omega, by rw [g3]; exact Nat.zero_le _⟩
        · rw [Dp.copies_not_literal hc] at k; cases k
      · have hc : o.copies = false := by simp [Dp.copies]; omega
        unfold Dp.size at hs; rw [hc] at hs
        simp only [Bool.false_eq_true, if_false] at hs
        exact ⟨by omega, by omega, by omega⟩) h.big).1
    omega
  · omega
end Go.Proofs.Ytcljlglmnagodaa
