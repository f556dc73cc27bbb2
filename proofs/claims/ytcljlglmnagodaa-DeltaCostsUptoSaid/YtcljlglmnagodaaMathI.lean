/-
  Plain laws of composing: the pieces that a copy of a copy falls into.
-/
import Derived.Test.YtcljlglmnagodaaMathF
namespace Go.Proofs.Ytcljlglmnagodaa

/-- The bytes a to b - 1 of what an op stands for, as an op. -/
def cutD (o : Dp) (a b : Nat) : Dp := if o.copies then ⟨o.f + a, ((b - a : Nat) : Int), []⟩ else ⟨0, 0, (o.l.drop a).take (b - a)⟩
/-- The pieces of ops that make up the bytes s to t - 1, if the first op begins at offset k. -/
def partF (s t : Nat) : Nat → List Dp → List Dp
  | _, [] => []
  | k, o :: os => (if s - k < min (t - k) o.size then [cutD o (s - k) (min (t - k) o.size)] else []) ++ partF s t (k + o.size) os
theorem srcs_cut (f n a b : Nat) (hb : b ≤ n) : ((srcs f n).take b).drop a = srcs (f + a) (b - a) := by
  apply List.ext_getElem?
  intro i
  rw [List.getElem?_drop, List.getElem?_take]
  by_cases h : a + i < b
  · rw [if_pos h, srcs_get n f (a + i) (by omega), srcs_get (b - a) (f + a) i (by omega)]
    congr 2; omega
  · rw [if_neg h, List.getElem?_eq_none (by rw [srcs_length]; omega)]
theorem cutD_atoms {o : Dp} (ho : o.fine) {a b : Nat} (hab : a < b) (hb : b ≤ o.size) : (cutD o a b).atoms = (o.atoms.take b).drop a := by
  unfold cutD
  rcases ho with ⟨hc, hf⟩ | hl
  · rw [if_pos hc]
    have hs : o.size = o.z.toNat := by unfold Dp.size; rw [if_pos hc]
    have h1 : o.atoms = srcs o.f.toNat o.z.toNat := by unfold Dp.atoms; rw [if_pos hc]
    rw [h1, srcs_cut _ _ _ _ (by omega), atoms_copy (o.f.toNat + a) (b - a) _ (by show o.f + a = _; omega) rfl (by omega) rfl]
  · have hc : o.copies = false := by
      cases h : o.copies with
      | false => rfl
      | true => rw [Dp.copies_not_literal h] at hl; cases hl
    rw [hc]
    simp only [Bool.false_eq_true, if_false]
    have h1 : o.atoms = o.l.map .lit := by unfold Dp.atoms; rw [hc]; rfl
    rw [h1, atoms_lit _ rfl, ← List.map_take, ← List.map_drop, List.drop_take]
theorem cutD_fine {o : Dp} (ho : o.fine) {a b : Nat} (hab : a < b) (hb : b ≤ o.size) : (cutD o a b).fine := by
  unfold cutD
  rcases ho with ⟨hc, hf⟩ | hl
  · rw [if_pos hc]
    exact .inl ⟨by simp [Dp.copies]; omega, by show 0 ≤ o.f + a; omega⟩
  · have hc : o.copies = false := by
      cases h : o.copies with
      | false => rfl
      | true => rw [Dp.copies_not_literal h] at hl; cases hl
    rw [hc]
    simp only [Bool.false_eq_true, if_false]
    have hs : o.size = o.l.length := by unfold Dp.size; rw [hc]; rfl
    refine .inr ?_
    have : ((o.l.drop a).take (b - a)) ≠ [] := by
      intro h
      have := congrArg List.length h
      rw [List.length_take, List.length_drop] at this
      simp only [List.length_nil] at this
      omega
    cases hh : (o.l.drop a).take (b - a) with
    | nil => exact absurd hh this
    | cons x xs => simp [Dp.literal]
theorem atomsD_cons (o : Dp) (os : List Dp) : atomsD (o :: os) = o.atoms ++ atomsD os := by simp [atomsD]
theorem atomsD_append (A B : List Dp) : atomsD (A ++ B) = atomsD A ++ atomsD B := by simp [atomsD]
theorem sizeD_cons (o : Dp) (os : List Dp) : sizeD (o :: os) = o.size + sizeD os := by simp [sizeD]
theorem partF_atoms (s t : Nat) : ∀ (os : List Dp) (k : Nat), (∀ o ∈ os, o.fine) → atomsD (partF s t k os) = ((atomsD os).take (t - k)).drop (s - k)
  | [], k, _ => by simp [partF, atomsD]
  | o :: os, k, h => by
    unfold partF
    rw [atomsD_append, partF_atoms s t os _ (fun x hx => h x (List.mem_cons_of_mem _ hx)), atomsD_cons, List.take_append, List.drop_append, atoms_length, List.length_take, atoms_length]
    have ho := h o (List.mem_cons_self ..)
    congr 1
    · split
      · rename_i hlt
        rw [show atomsD [cutD o (s - k) (min (t - k) o.size)] = (cutD o (s - k) (min (t - k) o.size)).atoms by simp [atomsD], cutD_atoms ho hlt (Nat.min_le_right _ _)]
        by_cases hm : t - k ≤ o.size
        · rw [Nat.min_eq_left hm]
        · rw [Nat.min_eq_right (by omega), List.take_of_length_le (by rw [atoms_length]; omega), List.take_of_length_le (by rw [atoms_length]; omega)]
      · rename_i hlt
        rw [List.drop_of_length_le (by rw [List.length_take, atoms_length]; omega)]
        rfl
    · by_cases hm : t - k ≤ o.size
      · rw [show t - (k + o.size) = 0 by omega, show t - k - o.size = 0 by omega]; simp
      · rw [Nat.min_eq_right (by omega), show t - (k + o.size) = t - k - o.size by omega, show s - (k + o.size) = s - k - o.size by omega]
theorem partF_fine (s t : Nat) : ∀ (os : List Dp) (k : Nat), (∀ o ∈ os, o.fine) → ∀ x ∈ partF s t k os, x.fine
  | [], _, _, x, hx => by cases hx
  | o :: os, k, h, x, hx => by
    unfold partF at hx
    rcases List.mem_append.1 hx with hx | hx
    · split at hx
      · rename_i hlt
        rw [List.mem_singleton] at hx; subst hx
        exact cutD_fine (h o (List.mem_cons_self ..)) hlt (Nat.min_le_right _ _)
      · cases hx
    · exact partF_fine s t os _ (fun y hy => h y (List.mem_cons_of_mem _ hy)) x hx
theorem partF_length (s t : Nat) : ∀ (os : List Dp) (k : Nat), (partF s t k os).length ≤ os.length
  | [], _ => Nat.le_refl _
  | o :: os, k => by
    unfold partF
    rw [List.length_append, List.length_cons]
    have := partF_length s t os (k + o.size)
    split <;> simp <;> omega
theorem partF_done (s t : Nat) (h : t ≤ s) : ∀ (os : List Dp) (k : Nat), partF s t k os = []
  | [], _ => rfl
  | o :: os, k => by
    unfold partF
    rw [if_neg (by omega), partF_done s t h os]; rfl
theorem partF_past (s t : Nat) : ∀ (os : List Dp) (k : Nat), t ≤ k → partF s t k os = []
  | [], _, _ => rfl
  | o :: os, k, h => by
    unfold partF
    rw [if_neg (by omega), partF_past s t os _ (by omega)]; rfl
/-- Ops that end ahead of s give nothing. -/
theorem partF_skip (s t : Nat) : ∀ (A B : List Dp) (k : Nat), k + sizeD A ≤ s → partF s t k (A ++ B) = partF s t (k + sizeD A) B
  | [], B, k, _ => by simp [sizeD]
  | o :: A, B, k, h => by
    rw [sizeD_cons] at h
    rw [List.cons_append, partF, if_neg (by omega), List.nil_append, partF_skip s t A B _ (by omega), sizeD_cons, Nat.add_assoc]
/-- One piece off, if s lies in the first op. -/
theorem partF_step {s t k : Nat} {o : Dp} {os : List Dp} (h1 : k ≤ s) (h2 : s < k + o.size) (h3 : s < t) : partF s t k (o :: os) = cutD o (s - k) (min t (k + o.size) - k) :: partF (min t (k + o.size)) t (k + o.size) os := by
  have hm : min (t - k) o.size = min t (k + o.size) - k := by
    rw [Nat.min_def, Nat.min_def]; split <;> split <;> omega
  have hlt : s - k < min t (k + o.size) - k := by
    rw [Nat.min_def]; split <;> omega
  rw [partF, hm, if_pos hlt, List.singleton_append]
  congr 1
  by_cases ht : t ≤ k + o.size
  · rw [partF_past s t os _ ht, partF_past _ t os _ ht]
  · have : ∀ (os : List Dp) (j : Nat), k + o.size ≤ j → partF s t j os = partF (min t (k + o.size)) t j os := by
      intro os
      induction os with
      | nil => intros; rfl
      | cons x os ih =>
        intro j hj
        rw [partF, partF, show s - j = 0 by omega, show min t (k + o.size) - j = 0 by omega, ih _ (by omega)]
    exact this os _ (Nat.le_refl _)

/-! ### Compose -/
/-- What composing adds, in order. -/
def seqC (A B : List Dp) : List Dp := B.flatMap fun o => if o.copies then partF o.f.toNat (o.f + o.z).toNat 0 A else [o]
def compRes (base : Int) (A B : List Dp) : List Dp × Int :=
  if (ckRes base A).2 ≠ 0 then ([], (ckRes base A).2) else if (ckRes (ckRes base A).1 B).2 ≠ 0 then ([], (ckRes (ckRes base A).1 B).2) else
  if 4096 < (normD (seqC A B)).length then ([], 263) else (normD (seqC A B), 0)
theorem seqC_fine {A B : List Dp} (hA : ∀ o ∈ A, o.fine) (hB : ∀ o ∈ B, o.fine) : ∀ x ∈ seqC A B, x.fine := by
  intro x hx
  obtain ⟨o, ho, hx⟩ := List.mem_flatMap.1 hx
  split at hx
  · exact partF_fine _ _ A 0 hA x hx
  · rw [List.mem_singleton] at hx; subst hx; exact hB x ho
theorem seqC_length (A B : List Dp) : (seqC A B).length ≤ B.length * (A.length + 1) := by
  induction B with
  | nil => simp [seqC]
  | cons o B ih =>
    have : (seqC A (o :: B)).length = (if o.copies then partF o.f.toNat (o.f + o.z).toNat 0 A else [o]).length + (seqC A B).length := by simp [seqC]
    rw [this, List.length_cons, Nat.add_mul, Nat.one_mul]
    have h1 : (if o.copies then partF o.f.toNat (o.f + o.z).toNat 0 A else [o]).length ≤ A.length + 1 := by
      split
      · exact Nat.le_succ_of_le (partF_length _ _ A 0)
      · simp
    omega
theorem seqC_atoms {A : List Dp} (hA : ∀ o ∈ A, o.fine) : ∀ {B : List Dp}, (∀ o ∈ B, o.ok (sizeD A)) → atomsD (seqC A B) = compA (atomsD A) (atomsD B)
  | [], _ => rfl
  | o :: B, hB => by
    have h1 : seqC A (o :: B) = (if o.copies then partF o.f.toNat (o.f + o.z).toNat 0 A else [o]) ++ seqC A B := by simp [seqC]
    have h2 : compA (atomsD A) (atomsD (o :: B)) = o.atoms.map (Atom.subst (atomsD A)) ++ compA (atomsD A) (atomsD B) := by simp [compA, atomsD_cons]
    rw [h1, h2, atomsD_append, seqC_atoms hA (fun x hx => hB x (List.mem_cons_of_mem _ hx))]
    congr 1
    rcases hB o (List.mem_cons_self ..) with ⟨hc, hf, hz⟩ | hl
    · have hz1 : 1 ≤ o.z := by simp only [Dp.copies, Bool.and_eq_true, decide_eq_true_eq] at hc; exact hc.1
      rw [if_pos hc, partF_atoms _ _ A 0 hA, Nat.sub_zero, Nat.sub_zero]
      have h3 : o.atoms = srcs o.f.toNat o.z.toNat := by unfold Dp.atoms; rw [if_pos hc]
      rw [h3, srcs_subst _ _ _ (by rw [atomsD_length]; omega), show (o.f + o.z).toNat = o.f.toNat + o.z.toNat by omega, List.drop_take, Nat.add_sub_cancel_left]
    · have hc : o.copies = false := by
        cases h : o.copies with
        | false => rfl
        | true => rw [Dp.copies_not_literal h] at hl; cases hl
      rw [hc]
      simp only [Bool.false_eq_true, if_false]
      have h1 : o.atoms = o.l.map .lit := by unfold Dp.atoms; rw [hc]; rfl
      rw [show atomsD [o] = o.atoms by simp [atomsD], h1, List.map_map]
      rfl
theorem normD_length_le : ∀ (os acc : List Dp), (os.foldl addD acc).length ≤ acc.length + os.length
  | [], _ => by simp
  | o :: os, acc => by
    have h1 := normD_length_le os (addD acc o)
    have h2 := (addD_length acc o).2
    rw [List.foldl_cons, List.length_cons]
    omega
theorem normD_length_ge : ∀ (os acc : List Dp), acc.length ≤ (os.foldl addD acc).length
  | [], _ => Nat.le_refl _
  | o :: os, acc => by
    have h1 := normD_length_ge os (addD acc o)
    have h2 := (addD_length acc o).1
    rw [List.foldl_cons]
    omega
/-- What a right composition is. -/
theorem comp_norm {A B : List Dp} (hA : ∀ o ∈ A, o.fine) (hB : ∀ o ∈ B, o.ok (sizeD A)) : normD (seqC A B) = norm (compA (atomsD A) (atomsD B)) := by
  rw [normD_eq (seqC_fine hA fun o ho => (hB o ho).fine), seqC_atoms hA hB]
theorem comp_ok {base : Nat} {A B : List Dp} (hA : ∀ o ∈ A, o.ok base) (hB : ∀ o ∈ B, o.ok (sizeD A)) : (∀ o ∈ normD (seqC A B), o.ok base) ∧ sizeD (normD (seqC A B)) = sizeD B := by
  have h := comp_norm (fun o ho => (hA o ho).fine) hB
  rw [h]
  refine ⟨norm_ok (compA_below (atomsD_below hA) ?_), ?_⟩
  · rw [atomsD_length]; exact atomsD_below hB
  · rw [← atomsD_length, atoms_norm, compA, List.length_map, atomsD_length]
theorem comp_app {b : List UInt8} {A B : List Dp} (hA : ∀ o ∈ A, o.ok b.length) (hB : ∀ o ∈ B, o.ok (sizeD A)) : appD b (normD (seqC A B)) = appD (appD b A) B := by
  have h := comp_norm (fun o ho => (hA o ho).fine) hB
  have hlen : (appD b A).length = sizeD A := by rw [← atomsD_read hA, List.length_map, atomsD_length]
  rw [← atomsD_read (comp_ok hA hB).1, h, atoms_norm, compA_read (by rw [atomsD_length]; exact atomsD_below hB), atomsD_read hA, atomsD_read (by rw [hlen]; exact hB)]
theorem comp_assoc {base : Nat} {A B C : List Dp} (hA : ∀ o ∈ A, o.ok base) (hB : ∀ o ∈ B, o.ok (sizeD A)) (hC : ∀ o ∈ C, o.ok (sizeD B)) : normD (seqC (normD (seqC A B)) C) = normD (seqC A (normD (seqC B C))) := by
  have h1 := comp_ok hA hB
  have h2 := comp_ok hB hC
  rw [comp_norm (fun o ho => (h1.1 o ho).fine) (by rw [h1.2]; exact hC), comp_norm (fun o ho => (hA o ho).fine) h2.1,
    comp_norm (fun o ho => (hA o ho).fine) hB, comp_norm (fun o ho => (hB o ho).fine) hC, atoms_norm, atoms_norm, compA_assoc (by rw [atomsD_length]; exact atomsD_below hC)]
end Go.Proofs.Ytcljlglmnagodaa
