/-
  Plain laws of chains.
-/
import Derived.Test.YtkhjeeaojlaagaaDelQ
namespace Go.Proofs.Ytkhjeeaojlaagaa

/-- A link as data. -/
structure Ln where
  b : Int
  l : List UInt8
/-- The content and depth of a link behind others, and the error. -/
def lnS (acc : List (List UInt8 × Nat)) (x : Ln) : (List UInt8 × Nat) × Int :=
  if x.b < -1 ∨ (acc.length : Int) ≤ x.b then (([], 0), 270)
  else if x.b < 0 then (if 1048576 < x.l.length then (([], 0), 274) else ((x.l, 0), 0))
  else match acc[x.b.toNat]? with
    | none => (([], 0), 270)
    | some (c, d) => match decD c.length x.l with
      | none => (([], 0), 270)
      | some os => if 8 ≤ d then (([], 0), 271) else ((appD c os, d + 1), 0)
def stF : List Ln → List (List UInt8 × Nat) → List (List UInt8 × Nat) × Int
  | [], acc => (acc, 0)
  | x :: xs, acc => if (lnS acc x).2 = 0 then stF xs (acc ++ [(lnS acc x).1]) else ([], (lnS acc x).2)
/-- The contents and depths of a chain, and the error: P27.1. -/
def stC (L : List Ln) : List (List UInt8 × Nat) × Int := if 256 < L.length then ([], 272) else stF L []
/-- A valid chain with its contents and depths. -/
def Val (L : List Ln) (S : List (List UInt8 × Nat)) : Prop := S.length = L.length ∧ ∀ i x, L[i]? = some x → ∃ y, S[i]? = some y ∧ lnS (S.take i) x = (y, 0)

theorem decD_ok {base : Int} {l : List UInt8} {os : List Dp} (h : decD base l = some os) : (ckRes base os).2 = 0 := by
  unfold decD at h
  split at h
  · cases h
  · split at h
    · cases h
    · split at h
      · rename_i hc
        cases h
        exact hc.1
      · cases h
theorem decD_ck {base : Int} {l : List UInt8} {os : List Dp} (h : decD base l = some os) : ckRes base os = ((sizeD os : Int), 0) ∧ sizeD os ≤ 1048576 ∧ ∀ o ∈ os, o.ok base := by
  have h1 := decD_ok h
  have h2 : ckRes base os = ((ckRes base os).1, 0) := by rw [← h1]
  obtain ⟨g1, g2, g3, -⟩ := ckRes_ok h2
  exact ⟨by rw [← g2]; exact h2, g3, g1⟩
theorem lnS_cases (acc : List (List UInt8 × Nat)) (x : Ln) :
    ((x.b < -1 ∨ (acc.length : Int) ≤ x.b) ∧ lnS acc x = (([], 0), 270)) ∨
    (x.b = -1 ∧ 1048576 < x.l.length ∧ lnS acc x = (([], 0), 274)) ∨
    (x.b = -1 ∧ x.l.length ≤ 1048576 ∧ lnS acc x = ((x.l, 0), 0)) ∨
    (∃ (j : Nat) (c : List UInt8) (d : Nat), x.b = (j : Int) ∧ j < acc.length ∧ acc[j]? = some (c, d) ∧
      ((decD c.length x.l = none ∧ lnS acc x = (([], 0), 270)) ∨
       (∃ os, decD c.length x.l = some os ∧ 8 ≤ d ∧ lnS acc x = (([], 0), 271)) ∨
       (∃ os, decD c.length x.l = some os ∧ d < 8 ∧ lnS acc x = ((appD c os, d + 1), 0)))) := by
  by_cases h1 : x.b < -1 ∨ (acc.length : Int) ≤ x.b
  · exact .inl ⟨h1, by unfold lnS; rw [if_pos h1]⟩
  by_cases h2 : x.b < 0
  · have h3 : x.b = -1 := by omega
    by_cases h4 : 1048576 < x.l.length
    · exact .inr (.inl ⟨h3, h4, by unfold lnS; rw [if_neg h1, if_pos h2, if_pos h4]⟩)
    · exact .inr (.inr (.inl ⟨h3, by omega, by unfold lnS; rw [if_neg h1, if_pos h2, if_neg h4]⟩))
  · obtain ⟨j, hj⟩ := Int.eq_ofNat_of_zero_le (show 0 ≤ x.b by omega)
    have hjl : j < acc.length := by omega
    obtain ⟨c, d, hcd⟩ : ∃ c d, acc[j]? = some (c, d) := ⟨_, _, List.getElem?_eq_getElem hjl⟩
    refine .inr (.inr (.inr ⟨j, c, d, hj, hjl, hcd, ?_⟩))
    have hjt : x.b.toNat = j := by omega
    cases hd : decD c.length x.l with
    | none => exact .inl ⟨rfl, by unfold lnS; rw [if_neg h1, if_neg h2, hjt, hcd]; simp only [hd]⟩
    | some os =>
      by_cases h8 : 8 ≤ d
      · exact .inr (.inl ⟨os, rfl, h8, by unfold lnS; rw [if_neg h1, if_neg h2, hjt, hcd]; simp only [hd]; rw [if_pos h8]⟩)
      · exact .inr (.inr ⟨os, rfl, by omega, by unfold lnS; rw [if_neg h1, if_neg h2, hjt, hcd]; simp only [hd]; rw [if_neg h8]⟩)
theorem lnS_full {acc : List (List UInt8 × Nat)} {l : List UInt8} (h : l.length ≤ 1048576) : lnS acc ⟨-1, l⟩ = ((l, 0), 0) := by
  unfold lnS
  rw [if_neg (by show ¬ ((-1 : Int) < -1 ∨ (acc.length : Int) ≤ -1); omega), if_pos (by show (-1 : Int) < 0; decide), if_neg (by show ¬ 1048576 < l.length; omega)]
theorem lnS_lean {acc : List (List UInt8 × Nat)} {l c : List UInt8} {j d : Nat} {os : List Dp} (hj : acc[j]? = some (c, d)) (hd : decD c.length l = some os) (h8 : d < 8) : lnS acc ⟨(j : Int), l⟩ = ((appD c os, d + 1), 0) := by
  have hjl := (List.getElem?_eq_some_iff.1 hj).1
  unfold lnS
  rw [if_neg (by show ¬ ((j : Int) < -1 ∨ (acc.length : Int) ≤ j); omega), if_neg (by show ¬ (j : Int) < 0; omega)]
  show (match acc[(j : Int).toNat]? with | none => _ | some (c, d) => _) = _
  rw [Int.toNat_natCast, hj]
  simp only [hd]
  rw [if_neg (by omega)]
/-- What a right link is. -/
theorem lnS_ok {acc : List (List UInt8 × Nat)} {x : Ln} {y : List UInt8 × Nat} (h : lnS acc x = (y, 0)) :
    (x.b = -1 ∧ x.l.length ≤ 1048576 ∧ y = (x.l, 0)) ∨ ∃ (j : Nat) (c : List UInt8) (d : Nat) (os : List Dp), x.b = (j : Int) ∧ acc[j]? = some (c, d) ∧ decD c.length x.l = some os ∧ d < 8 ∧ y = (appD c os, d + 1) := by
  rcases lnS_cases acc x with ⟨-, g⟩ | ⟨-, -, g⟩ | ⟨g1, g2, g⟩ | ⟨j, c, d, g1, g2, g3, g4⟩
  · rw [g] at h; simp at h
  · rw [g] at h; simp at h
  · rw [g] at h
    exact .inl ⟨g1, g2, by simpa using h.symm⟩
  · rcases g4 with ⟨-, g⟩ | ⟨os, -, -, g⟩ | ⟨os, g5, g6, g⟩
    · rw [g] at h; simp at h
    · rw [g] at h; simp at h
    · rw [g] at h
      exact .inr ⟨j, c, d, os, g1, g3, g5, g6, by simpa using h.symm⟩
theorem lnS_size {acc : List (List UInt8 × Nat)} {x : Ln} {y : List UInt8 × Nat} (h : lnS acc x = (y, 0)) : y.1.length ≤ 1048576 ∧ y.2 ≤ 8 := by
  rcases lnS_ok h with ⟨-, h2, rfl⟩ | ⟨j, c, d, os, -, -, h3, h4, rfl⟩
  · exact ⟨h2, Nat.zero_le _⟩
  · obtain ⟨-, g2, g3⟩ := decD_ck h3
    refine ⟨?_, by show d + 1 ≤ 8; omega⟩
    show (appD c os).length ≤ _
    rw [appD_length g3]
    exact g2
/-- A link's content rests on the length of what is ahead and on its base alone. -/
theorem lnS_same {acc acc' : List (List UInt8 × Nat)} {x : Ln} {y : List UInt8 × Nat} (h : lnS acc x = (y, 0)) (hs : ∀ j : Nat, x.b = (j : Int) → acc'[j]? = acc[j]?) : lnS acc' x = (y, 0) := by
  rcases lnS_ok h with ⟨h1, h2, rfl⟩ | ⟨j, c, d, os, h1, h2, h3, h4, rfl⟩
  · obtain ⟨b, l⟩ := x
    obtain rfl : b = -1 := h1
    exact lnS_full h2
  · have h5 := (hs j h1).trans h2
    obtain ⟨b, l⟩ := x
    obtain rfl : b = (j : Int) := h1
    exact lnS_lean h5 h3 h4
theorem Val.nil : Val [] [] := ⟨rfl, fun i x h => by simp at h⟩
theorem Val.len {L : List Ln} {S : List (List UInt8 × Nat)} (h : Val L S) : S.length = L.length := h.1
theorem Val.snoc {L : List Ln} {S : List (List UInt8 × Nat)} {x : Ln} {y : List UInt8 × Nat} (h : Val L S) (hx : lnS S x = (y, 0)) : Val (L ++ [x]) (S ++ [y]) := by
  refine ⟨by rw [List.length_append, List.length_append, h.1]; rfl, fun i z hz => ?_⟩
  by_cases hi : i < L.length
  · rw [List.getElem?_append_left hi] at hz
    obtain ⟨u, h1, h2⟩ := h.2 i z hz
    refine ⟨u, by rw [List.getElem?_append_left (by have := h.1; omega)]; exact h1, ?_⟩
    rw [List.take_append_of_le_length (by have := h.1; omega)]
    exact h2
  · have hi2 : i = L.length := by
      have := (List.getElem?_eq_some_iff.1 hz).1
      rw [List.length_append, List.length_singleton] at this
      omega
    subst hi2
    rw [List.getElem?_concat_length] at hz
    cases hz
    refine ⟨y, by rw [← h.1, List.getElem?_concat_length], ?_⟩
    rw [← h.1, List.take_left]
    exact hx
theorem Val.size {L : List Ln} {S : List (List UInt8 × Nat)} (h : Val L S) {y : List UInt8 × Nat} (hy : y ∈ S) : y.1.length ≤ 1048576 ∧ y.2 ≤ 8 := by
  obtain ⟨i, hi⟩ := List.mem_iff_getElem?.1 hy
  have hl := (List.getElem?_eq_some_iff.1 hi).1
  obtain ⟨u, h1, h2⟩ := h.2 i _ (List.getElem?_eq_getElem (by rw [← h.1]; exact hl))
  rw [hi] at h1
  cases h1
  exact lnS_size h2
theorem stF_val : ∀ (L L0 : List Ln) (S : List (List UInt8 × Nat)), Val L0 S → ∀ {T : List (List UInt8 × Nat)}, stF L S = (T, 0) → Val (L0 ++ L) T
  | [], L0, S, h, T, hT => by
    simp only [stF, Prod.mk.injEq, and_true] at hT
    subst hT
    rw [List.append_nil]
    exact h
  | x :: L, L0, S, h, T, hT => by
    unfold stF at hT
    by_cases he : (lnS S x).2 = 0
    · rw [if_pos he] at hT
      have h1 := stF_val L (L0 ++ [x]) (S ++ [(lnS S x).1]) (h.snoc (by rw [← he])) hT
      rwa [List.append_assoc, List.singleton_append] at h1
    · rw [if_neg he, Prod.mk.injEq] at hT
      exact absurd hT.2 he
theorem stF_of : ∀ (L L0 : List Ln) (T : List (List UInt8 × Nat)), Val (L0 ++ L) T → stF L (T.take L0.length) = (T, 0)
  | [], L0, T, h => by
    have h1 := h.1
    rw [List.append_nil] at h1
    unfold stF
    rw [List.take_of_length_le (by omega)]
  | x :: L, L0, T, h => by
    obtain ⟨y, h1, h2⟩ := h.2 L0.length x (by rw [List.getElem?_append_right (Nat.le_refl _), Nat.sub_self]; rfl)
    have h3 := stF_of L (L0 ++ [x]) T (by rw [List.append_assoc, List.singleton_append]; exact h)
    unfold stF
    rw [h2]
    simp only [if_true]
    rw [List.length_append, List.length_singleton, List.take_add_one, h1] at h3
    exact h3
theorem stC_val {L : List Ln} {S : List (List UInt8 × Nat)} (h : stC L = (S, 0)) : Val L S ∧ L.length ≤ 256 := by
  unfold stC at h
  by_cases hl : 256 < L.length
  · rw [if_pos hl] at h; simp at h
  · rw [if_neg hl] at h
    exact ⟨stF_val L [] [] Val.nil h, by omega⟩
theorem Val.st {L : List Ln} {S : List (List UInt8 × Nat)} (h : Val L S) (hl : L.length ≤ 256) : stC L = (S, 0) := by
  unfold stC
  rw [if_neg (by omega)]
  exact stF_of L [] S h
theorem stF_err : ∀ (L : List Ln) (S : List (List UInt8 × Nat)), (stF L S).2 ≠ 0 → (stF L S).1 = []
  | [], S, h => absurd rfl h
  | x :: L, S, h => by
    unfold stF at h ⊢
    by_cases he : (lnS S x).2 = 0
    · rw [if_pos he] at h ⊢
      exact stF_err L _ h
    · rw [if_neg he]

/-! ### Append -/
/-- The link of a content behind others. -/
def apL (S : List (List UInt8 × Nat)) (b : List UInt8) : Ln :=
  match S.getLast? with
  | none => ⟨-1, b⟩
  | some (c, d) => if d < 8 ∧ c.length ≤ 2048 ∧ b.length ≤ 2048 ∧ (encD (makeD c b)).length < b.length then ⟨((S.length - 1 : Nat) : Int), encD (makeD c b)⟩ else ⟨-1, b⟩
def apC (L : List Ln) (b : List UInt8) : List Ln × Int :=
  if (stC L).2 = 0 then (if L.length = 256 then ([], 272) else if 1048576 < b.length then ([], 274) else (L ++ [apL (stC L).1 b], 0)) else ([], (stC L).2)
theorem last_get {α : Type} {S : List α} {x : α} (h : S.getLast? = some x) : S[S.length - 1]? = some x ∧ 0 < S.length := by
  rcases List.eq_nil_or_concat S with rfl | ⟨A, y, rfl⟩
  · cases h
  · rw [List.concat_eq_append] at h ⊢
    rw [List.getLast?_append, List.getLast?_singleton] at h
    simp only [Option.some_or, Option.some.injEq] at h
    subst h
    rw [List.length_append, List.length_singleton, Nat.add_sub_cancel, List.getElem?_concat_length]
    exact ⟨rfl, by omega⟩
/-- The new link has the content. -/
theorem apL_ok {S : List (List UInt8 × Nat)} {b : List UInt8} (hb : b.length ≤ 1048576) :
    (apL S b = ⟨-1, b⟩ ∧ lnS S (apL S b) = ((b, 0), 0)) ∨ (∃ (c : List UInt8) (d : Nat), S.getLast? = some (c, d) ∧ d < 8 ∧ (encD (makeD c b)).length < b.length ∧ c.length ≤ 2048 ∧ b.length ≤ 2048 ∧ apL S b = ⟨((S.length - 1 : Nat) : Int), encD (makeD c b)⟩ ∧ lnS S (apL S b) = ((b, d + 1), 0)) := by
  cases hS : S.getLast? with
  | none =>
    have h1 : apL S b = ⟨-1, b⟩ := by unfold apL; rw [hS]
    exact .inl ⟨h1, by rw [h1]; exact lnS_full hb⟩
  | some y =>
    obtain ⟨c, d⟩ := y
    by_cases hc : d < 8 ∧ c.length ≤ 2048 ∧ b.length ≤ 2048 ∧ (encD (makeD c b)).length < b.length
    · have h1 : apL S b = ⟨((S.length - 1 : Nat) : Int), encD (makeD c b)⟩ := by unfold apL; rw [hS]; exact if_pos hc
      refine .inr ⟨c, d, rfl, hc.1, hc.2.2.2, hc.2.1, hc.2.2.1, h1, ?_⟩
      rw [h1]
      have h2 := (last_get hS).1
      have h3 : decD (c.length : Int) (encD (makeD c b)) = some (makeD c b) := decD_enc (by rw [make_check hc.2.1 hc.2.2.1])
      have h4 := lnS_lean h2 h3 hc.1
      rwa [make_turns] at h4
    · have h1 : apL S b = ⟨-1, b⟩ := by unfold apL; rw [hS]; exact if_neg hc
      exact .inl ⟨h1, by rw [h1]; exact lnS_full hb⟩
theorem apL_val {L : List Ln} {S : List (List UInt8 × Nat)} {b : List UInt8} (h : Val L S) (hb : b.length ≤ 1048576) : ∃ d, Val (L ++ [apL S b]) (S ++ [(b, d)]) := by
  rcases apL_ok (S := S) hb with ⟨-, h2⟩ | ⟨c, d, -, -, -, -, -, -, h2⟩
  · exact ⟨0, h.snoc h2⟩
  · exact ⟨d + 1, h.snoc h2⟩
theorem apC_ok {L : List Ln} {S : List (List UInt8 × Nat)} {b : List UInt8} (h : Val L S) (hl : L.length < 256) (hb : b.length ≤ 1048576) : apC L b = (L ++ [apL S b], 0) := by
  unfold apC
  rw [h.st (by omega)]
  simp only [if_true]
  rw [if_neg (by omega), if_neg (by omega)]

/-! ### Drop -/
def drL (S : List (List UInt8 × Nat)) (k i : Nat) (x : Ln) : Ln := if x.b < (k : Int) then ⟨-1, (S.getD i ([], 0)).1⟩ else ⟨x.b - (k : Int), x.l⟩
def drF (S : List (List UInt8 × Nat)) (k : Nat) : Nat → List Ln → List Ln
  | _, [] => []
  | i, x :: xs => drL S k i x :: drF S k (i + 1) xs
def drC (L : List Ln) (k : Int) : List Ln × Int :=
  if (stC L).2 = 0 then (if k < 0 ∨ (L.length : Int) < k then ([], 273) else (drF (stC L).1 k.toNat k.toNat (L.drop k.toNat), 0)) else ([], (stC L).2)
theorem drF_get (S : List (List UInt8 × Nat)) (k : Nat) : ∀ (L : List Ln) (i j : Nat), (drF S k i L)[j]? = (L[j]?).map (drL S k (i + j))
  | [], i, j => by simp [drF]
  | x :: L, i, 0 => by simp [drF]
  | x :: L, i, j + 1 => by
    simp only [drF, List.getElem?_cons_succ]
    rw [drF_get S k L (i + 1) j, show i + 1 + j = i + (j + 1) by omega]
theorem drF_length (S : List (List UInt8 × Nat)) (k : Nat) : ∀ (L : List Ln) (i : Nat), (drF S k i L).length = L.length
  | [], i => rfl
  | x :: L, i => by simp only [drF, List.length_cons]; rw [drF_length S k L (i + 1)]
theorem drF_take {L : List Ln} {S : List (List UInt8 × Nat)} (h : Val L S) {k : Nat} : ∀ (m : Nat), k + m ≤ L.length →
    ∃ S', Val ((drF S k k (L.drop k)).take m) S' ∧ S'.length = m ∧ ∀ i y, S'[i]? = some y → ∃ d, S[k + i]? = some (y.1, d) ∧ y.2 ≤ d
  | 0, hm => ⟨[], by rw [List.take_zero]; exact Val.nil, rfl, fun i y hy => by simp at hy⟩
  | m + 1, hm => by
    obtain ⟨S', h1, h2, h3⟩ := drF_take h (k := k) m (by omega)
    obtain ⟨x, hx⟩ : ∃ x, L[k + m]? = some x := ⟨_, List.getElem?_eq_getElem (by omega)⟩
    obtain ⟨y, hy, hxy⟩ := h.2 _ x hx
    have hg : (drF S k k (L.drop k))[m]? = some (drL S k (k + m) x) := by rw [drF_get, List.getElem?_drop, hx]; rfl
    have hstep : ∃ y', lnS S' (drL S k (k + m) x) = (y', 0) ∧ y'.1 = y.1 ∧ y'.2 ≤ y.2 := by
      have hsz := lnS_size hxy
      unfold drL
      by_cases hb : x.b < (k : Int)
      · rw [if_pos hb]
        have e : S.getD (k + m) ([], 0) = y := by rw [List.getD_eq_getElem?_getD, hy]; rfl
        rw [e]
        exact ⟨(y.1, 0), lnS_full hsz.1, rfl, Nat.zero_le _⟩
      · rw [if_neg hb]
        rcases lnS_ok hxy with ⟨g1, -, -⟩ | ⟨j, c, d, os, g1, g2, g3, g4, g5⟩
        · omega
        · have hjk : k ≤ j := by omega
          have hjm : j < k + m := by
            have := (List.getElem?_eq_some_iff.1 g2).1
            rw [List.length_take] at this
            omega
          have hjS : S[j]? = some (c, d) := by rw [List.getElem?_take, if_pos hjm] at g2; exact g2
          obtain ⟨u, hu⟩ : ∃ u, S'[j - k]? = some u := ⟨_, List.getElem?_eq_getElem (by omega)⟩
          obtain ⟨d', hd1, hd2⟩ := h3 _ u hu
          rw [show k + (j - k) = j by omega, hjS] at hd1
          simp only [Option.some.injEq, Prod.mk.injEq] at hd1
          obtain ⟨e1, e2⟩ := hd1
          obtain ⟨uc, ud⟩ := u
          obtain rfl : c = uc := e1
          have hud : ud ≤ d' := hd2
          have h4 := lnS_lean hu g3 (show ud < 8 by omega)
          have e3 : x.b - (k : Int) = ((j - k : Nat) : Int) := by omega
          rw [e3]
          refine ⟨_, h4, by rw [g5], by rw [g5]; show ud + 1 ≤ d + 1; omega⟩
    obtain ⟨y', q1, q2, q3⟩ := hstep
    refine ⟨S' ++ [y'], ?_, by rw [List.length_append, h2]; rfl, fun i z hz => ?_⟩
    · rw [List.take_add_one, hg]
      exact h1.snoc q1
    · by_cases hi : i < S'.length
      · rw [List.getElem?_append_left hi] at hz
        exact h3 i z hz
      · have hi2 : i = m := by
          have := (List.getElem?_eq_some_iff.1 hz).1
          rw [List.length_append, List.length_singleton] at this
          omega
        subst hi2
        rw [← h2, List.getElem?_concat_length] at hz
        cases hz
        exact ⟨y.2, by rw [q2]; exact hy, q3⟩
/-- What is dropped changes no content that stays, and makes no depth greater. -/
theorem drF_val {L : List Ln} {S : List (List UInt8 × Nat)} (h : Val L S) {k : Nat} (hk : k ≤ L.length) :
    ∃ S', Val (drF S k k (L.drop k)) S' ∧ S'.length = L.length - k ∧ ∀ i y, S'[i]? = some y → ∃ d, S[k + i]? = some (y.1, d) ∧ y.2 ≤ d := by
  obtain ⟨S', h1, h2, h3⟩ := drF_take h (k := k) (L.length - k) (by omega)
  rw [List.take_of_length_le (by rw [drF_length, List.length_drop]; exact Nat.le_refl _)] at h1
  exact ⟨S', h1, h2, h3⟩
end Go.Proofs.Ytkhjeeaojlaagaa
