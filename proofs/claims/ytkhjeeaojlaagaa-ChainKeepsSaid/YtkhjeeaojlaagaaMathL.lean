/-
  Plain laws: where each op of a delta begins in its result, and how a run of bytes is cut.
-/
import Derived.Test.YtkhjeeaojlaagaaMath1
import Derived.Test.YtkhjeeaojlaagaaDelF
import Derived.Test.YtkhjeeaojlaagaaDelV
namespace Go.Proofs.Ytkhjeeaojlaagaa
open Go.RowKit

/-- The offsets at which the ops begin. -/
def begD (D : List Dp) (j : Nat) : List Int := (List.range j).map fun i => ((sizeD (D.take i) : Nat) : Int)
theorem begD_succ (D : List Dp) (j : Nat) : begD D (j + 1) = begD D j ++ [((sizeD (D.take j) : Nat) : Int)] := by
  unfold begD; rw [List.range_succ, List.map_append]; rfl
theorem begD_length (D : List Dp) (j : Nat) : (begD D j).length = j := by unfold begD; rw [List.length_map, List.length_range]
theorem begD_get {D : List Dp} {j r : Nat} {b : Int} (h : (begD D j)[r]? = some b) : r < j ∧ b = ((sizeD (D.take r) : Nat) : Int) := by
  have hr : r < j := by have := (List.getElem?_eq_some_iff.1 h).1; rwa [begD_length] at this
  unfold begD at h
  rw [List.getElem?_map, List.getElem?_range hr] at h
  exact ⟨hr, (Option.some.inj h).symm⟩
theorem begD_at (D : List Dp) {j r : Nat} (hr : r < j) : (begD D j)[r]? = some ((sizeD (D.take r) : Nat) : Int) := by
  unfold begD
  rw [List.getElem?_map, List.getElem?_range hr]; rfl
theorem sizeD_take_mono (D : List Dp) {r s : Nat} (h : r ≤ s) : sizeD (D.take r) ≤ sizeD (D.take s) := by
  have : D.take s = D.take r ++ (D.drop r).take (s - r) := by
    rw [show s = r + (s - r) by omega, List.take_add, Nat.add_sub_cancel_left]
  rw [this, sizeD_app]; exact Nat.le_add_right _ _
theorem sizeD_take_succ {D : List Dp} {j : Nat} {o : Dp} (h : D[j]? = some o) : sizeD (D.take (j + 1)) = sizeD (D.take j) + o.size := by
  rw [List.take_add_one, h]; simp [sizeD]
theorem sizeD_take_le (D : List Dp) (j : Nat) : sizeD (D.take j) ≤ sizeD D := by
  by_cases h : j ≤ D.length
  · have := sizeD_take_mono D h; rwa [List.take_of_length_le (Nat.le_refl D.length)] at this
  · rw [List.take_of_length_le (by omega)]; exact Nat.le_refl _
theorem begD_mono (D : List Dp) (j : Nat) : ∀ (r s : Nat) (b d : Int), r ≤ s → (begD D j)[r]? = some b → (begD D j)[s]? = some d → b ≤ d := by
  intro r s b d hrs hb hd
  rw [(begD_get hb).2, (begD_get hd).2]
  have := sizeD_take_mono D hrs
  omega
/-- The op that holds the byte at offset s. -/
def Holds (D : List Dp) (i s : Nat) : Prop := i < D.length ∧ sizeD (D.take i) ≤ s ∧ s < sizeD (D.take (i + 1))
theorem seek {D : List Dp} {p s : Nat} (hp : p ≤ D.length) (hs : s < sizeD D) (hsz : ∀ o ∈ D, 1 ≤ o.size)
    (hlo : ∀ (r : Nat) (b : Int), r < p → (begD D D.length)[r]? = some b → b < s) (hhi : ∀ (r : Nat) (b : Int), p ≤ r → (begD D D.length)[r]? = some b → (s : Int) ≤ b) :
    ((begD D D.length)[p]? = some (s : Int) → Holds D p s) ∧ (¬ (begD D D.length)[p]? = some (s : Int) → 1 ≤ p ∧ Holds D (p - 1) s) := by
  constructor
  · intro h
    obtain ⟨h1, h2⟩ := begD_get h
    obtain ⟨o, ho⟩ : ∃ o, D[p]? = some o := ⟨_, List.getElem?_eq_getElem h1⟩
    refine ⟨h1, by omega, ?_⟩
    rw [sizeD_take_succ ho]
    have := hsz o (List.mem_of_getElem? ho)
    omega
  · intro h
    have hp1 : 1 ≤ p := by
      rcases Nat.eq_zero_or_pos p with rfl | h0
      · exfalso
        have hl : 0 < D.length := by
          rcases Nat.eq_zero_or_pos D.length with h0 | h0
          · rw [List.eq_nil_of_length_eq_zero h0] at hs; simp [sizeD] at hs
          · exact h0
        have h1 := hhi 0 _ (Nat.le_refl _) (begD_at D hl)
        apply h
        rw [begD_at D hl]
        simp [sizeD] at h1 ⊢
        omega
      · exact h0
    have h1 := hlo (p - 1) _ (by omega) (begD_at D (by omega))
    refine ⟨hp1, by omega, by omega, ?_⟩
    rw [show p - 1 + 1 = p by omega]
    by_cases hpl : p < D.length
    · have h2 := hhi p _ (Nat.le_refl _) (begD_at D hpl)
      have h3 : ¬ ((sizeD (D.take p) : Nat) : Int) = s := fun e => h (by rw [begD_at D hpl, e])
      omega
    · rw [List.take_of_length_le (by omega)]; exact hs
/-- What is left of the pieces from offset s on, if the op i holds it. -/
def leftF (D : List Dp) (i s t : Nat) : List Dp := partF s t (sizeD (D.take i)) (D.drop i)
theorem leftF_start {D : List Dp} {i s t : Nat} (h : Holds D i s) : leftF D i s t = partF s t 0 D := by
  have h1 := partF_skip s t (D.take i) (D.drop i) 0 (by rw [Nat.zero_add]; exact h.2.1)
  rw [List.take_append_drop, Nat.zero_add] at h1
  exact h1.symm
theorem leftF_step {D : List Dp} {i s t : Nat} {o : Dp} (h : Holds D i s) (ho : D[i]? = some o) (hst : s < t) :
    leftF D i s t = cutD o (s - sizeD (D.take i)) (min t (sizeD (D.take i) + o.size) - sizeD (D.take i)) :: leftF D (i + 1) (min t (sizeD (D.take i) + o.size)) t := by
  have h2 := h.2.2
  rw [sizeD_take_succ ho] at h2
  have hd : D.drop i = o :: D.drop (i + 1) := by
    rw [List.drop_eq_getElem_cons h.1]; congr 1
    exact Option.some.inj ((List.getElem?_eq_getElem h.1).symm.trans ho)
  unfold leftF
  rw [hd, partF_step h.2.1 h2 hst, sizeD_take_succ ho]
theorem leftF_done (D : List Dp) (i t : Nat) : leftF D i t t = [] := partF_done t t (Nat.le_refl _) _ _
theorem holds_next {D : List Dp} {i t : Nat} {o : Dp} (ho : D[i]? = some o) (ht : t ≤ sizeD D) (hsz : ∀ o ∈ D, 1 ≤ o.size) :
    min t (sizeD (D.take i) + o.size) = t ∨ (min t (sizeD (D.take i) + o.size) < t ∧ Holds D (i + 1) (min t (sizeD (D.take i) + o.size))) := by
  rcases Nat.lt_or_ge (sizeD (D.take i) + o.size) t with h1 | h1
  · right
    rw [Nat.min_eq_right (by omega)]
    have h2 := sizeD_take_succ ho
    refine ⟨h1, ?_⟩
    have hl : i + 1 < D.length := by
      rcases Nat.lt_or_ge (i + 1) D.length with h3 | h3
      · exact h3
      · rw [List.take_of_length_le h3] at h2; omega
    obtain ⟨o', ho'⟩ : ∃ o', D[i + 1]? = some o' := ⟨_, List.getElem?_eq_getElem hl⟩
    refine ⟨hl, by omega, ?_⟩
    rw [sizeD_take_succ ho']
    have := hsz o' (List.mem_of_getElem? ho')
    omega
  · left; exact Nat.min_eq_left h1
theorem cutD_ok {n : Int} {o : Dp} (ho : o.ok n) {a b : Nat} (hab : a < b) (hb : b ≤ o.size) : (cutD o a b).ok n := by
  have hf := cutD_fine ho.fine hab hb
  unfold cutD at hf ⊢
  rcases ho with ⟨hc, h1, h2⟩ | hl
  · rw [if_pos hc] at hf ⊢
    have hs : o.size = o.z.toNat := by unfold Dp.size; rw [if_pos hc]
    have hz : 1 ≤ o.z := by simp only [Dp.copies, Bool.and_eq_true, decide_eq_true_eq] at hc; exact hc.1
    refine .inl ⟨by simp [Dp.copies]; omega, by show 0 ≤ o.f + a; omega, by show o.f + a + ((b - a : Nat) : Int) ≤ n; omega⟩
  · have hc : ¬ o.copies = true := fun hc => by rw [Dp.copies_not_literal hc] at hl; cases hl
    rw [if_neg hc] at hf ⊢
    rcases hf with ⟨h1, _⟩ | h1
    · simp [Dp.copies] at h1
    · exact .inr h1
theorem cutD_size {o : Dp} (ho : o.fine) {a b : Nat} (hab : a < b) (hb : b ≤ o.size) : (cutD o a b).size = b - a := by
  rw [← atoms_length, cutD_atoms ho hab hb, List.length_drop, List.length_take, atoms_length]; omega
end Go.Proofs.Ytkhjeeaojlaagaa
