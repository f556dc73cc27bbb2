/-
  Plain laws of DeltaGreedy: no four bytes of the target that begin at a literal byte occur in the base.
-/
import Derived.Test.YtcljlglmnagodaaMath1
import Derived.Lib.IndexMore
namespace Go.Proofs.Ytcljlglmnagodaa

theorem matchF_max (b T : List UInt8) : ∀ (n s best fr : Nat), best ≤ (matchF b T n s best fr).1 ∧ ∀ x, s ≤ x → x < s + n → cmn (b.drop x) T ≤ (matchF b T n s best fr).1
  | 0, s, best, fr => ⟨Nat.le_refl _, fun x h1 h2 => by omega⟩
  | n + 1, s, best, fr => by
    unfold matchF
    by_cases hc : best < cmn (b.drop s) T
    · rw [if_pos hc]
      obtain ⟨h1, h2⟩ := matchF_max b T n (s + 1) (cmn (b.drop s) T) s
      refine ⟨by omega, fun x hx1 hx2 => ?_⟩
      by_cases hx : x = s
      · subst hx; exact h1
      · exact h2 x (by omega) (by omega)
    · rw [if_neg hc]
      obtain ⟨h1, h2⟩ := matchF_max b T n (s + 1) best fr
      refine ⟨h1, fun x hx1 hx2 => ?_⟩
      by_cases hx : x = s
      · subst hx; omega
      · exact h2 x (by omega) (by omega)
theorem not_contains {b T : List UInt8} {i : Nat} (h : (matchD b (T.drop i)).1 < 4) (hi : i + 4 ≤ T.length) : Lib.contains b ((T.drop i).take 4) = false := by
  unfold Lib.contains
  rw [decide_eq_false_iff_not]
  intro h0
  have hlen : ((T.drop i).take 4).length = 4 := by rw [List.length_take, List.length_drop]; omega
  rcases Lib.index_spec b ((T.drop i).take 4) with ⟨h1, _⟩ | ⟨k, h1, h2, h3, _⟩
  · omega
  · unfold Lib.occAt at h3
    rw [List.isPrefixOf_iff_prefix] at h3
    obtain ⟨t, ht⟩ := h3
    have h4 : (b.drop k).take 4 = (T.drop i).take 4 := by rw [← ht]; exact List.take_left' hlen
    have h5 : 4 ≤ (b.drop k).length := by rw [← ht, List.length_append, hlen]; omega
    have h6 : 4 ≤ cmn (b.drop k) (T.drop i) := (cmn_ge 4 _ _).2 ⟨h5, by rw [List.length_drop]; omega, h4⟩
    have h7 := (matchF_max b (T.drop i) b.length 0 0 0).2 k (Nat.zero_le _) (by rw [List.length_drop] at h5; omega)
    have h8 : (matchF b (T.drop i) b.length 0 0 0).1 < 4 := h
    omega
theorem Dp.nice.size {o : Dp} (h : o.nice) : (o.size : Int) = o.z + o.l.length := by
  rcases h with ⟨h1, h2, h3⟩ | ⟨h1, h2, h3⟩
  · have hc : o.copies = true := by unfold Dp.copies; rw [h3]; simp; omega
    unfold Dp.size
    rw [if_pos hc, h3]
    show ((o.z.toNat : Nat) : Int) = o.z + 0
    omega
  · have hc : o.copies = false := by unfold Dp.copies; simp; omega
    unfold Dp.size
    rw [if_neg (by rw [hc]; decide), h1]
    omega
theorem greedy_at {b T : List UInt8} {D : List Dp} (h : MkInv b T T.length D) {i k : Nat} {o : Dp} (ho : D[i]? = some o) (hk : k < o.l.length) (h4 : sizeD (D.take i) + k + 4 ≤ T.length) :
    Lib.contains b ((T.drop (sizeD (D.take i) + k)).take 4) = false := by
  have hn := h.nm.2 o (List.mem_of_getElem? ho)
  have hz : o.z = 0 := by
    rcases hn with ⟨-, -, h3⟩ | ⟨h1, -, -⟩
    · rw [h3] at hk; exact absurd hk (Nat.not_lt_zero _)
    · exact h1
  refine not_contains (h.greedy (sizeD (D.take i) + k) (o.l[k]) ?_) (by omega)
  have hD : D = D.take i ++ o :: D.drop (i + 1) := by
    obtain ⟨hl, he⟩ := List.getElem?_eq_some_iff.1 ho
    rw [← he, ← List.drop_eq_getElem_cons hl, List.take_append_drop]
  have ha : atomsD D = atomsD (D.take i) ++ (o.l.map .lit ++ atomsD (D.drop (i + 1))) := by
    conv => lhs; rw [hD]
    rw [atomsD_append, atomsD_cons, atoms_lit o hz]
  rw [ha, ← atomsD_length, List.getElem?_append_right (by omega), Nat.add_sub_cancel_left, List.getElem?_append_left (by rw [List.length_map]; exact hk), List.getElem?_map, List.getElem?_eq_getElem hk]
  rfl
theorem sizeD_le_take {D : List Dp} {i : Nat} {o : Dp} (ho : D[i]? = some o) : sizeD (D.take (i + 1)) = sizeD (D.take i) + o.size := by
  rw [List.take_add_one, ho]
  simp [sizeD]

theorem sizeD_take_leM (D : List Dp) (j : Nat) : sizeD (D.take j) ≤ sizeD D := by
  have h : sizeD D = sizeD (D.take j) + sizeD (D.drop j) := by
    unfold sizeD
    rw [← List.sum_append, ← List.map_append, List.take_append_drop]
  omega
end Go.Proofs.Ytcljlglmnagodaa
