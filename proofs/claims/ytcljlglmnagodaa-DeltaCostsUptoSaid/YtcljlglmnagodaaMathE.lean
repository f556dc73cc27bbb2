/-
  Plain laws of deltas: the normal form is one for each row of atoms; composing.
-/
import Derived.Test.YtcljlglmnagodaaMathD
namespace Go.Proofs.Ytcljlglmnagodaa

def Dp.fine (o : Dp) : Prop := (o.copies = true ∧ 0 ≤ o.f) ∨ o.literal = true
theorem Dp.ok.fine {b : Int} {o : Dp} (h : o.ok b) : o.fine := h.imp (fun h => ⟨h.1, h.2.1⟩) id
theorem foldl_addD : ∀ (os acc : List Dp), (∀ o ∈ os, o.fine) → os.foldl addD acc = (atomsD os).foldl addA acc
  | [], acc, _ => rfl
  | o :: os, acc, h => by
    rw [List.foldl_cons, addD_atoms (h o (List.mem_cons_self ..)), foldl_addD os _ (fun x hx => h x (List.mem_cons_of_mem _ hx)), show atomsD (o :: os) = o.atoms ++ atomsD os by simp [atomsD], List.foldl_append]
def normD (os : List Dp) : List Dp := os.foldl addD []
theorem normD_eq {os : List Dp} (h : ∀ o ∈ os, o.fine) : normD os = norm (atomsD os) := foldl_addD os [] h

/-- An op that stands in a normal delta. -/
def Dp.nice (o : Dp) : Prop := (1 ≤ o.z ∧ 0 ≤ o.f ∧ o.l = []) ∨ (o.z = 0 ∧ o.f = 0 ∧ o.l ≠ [])
theorem Dp.nice.fine {o : Dp} (h : o.nice) : o.fine := by
  rcases h with ⟨h1, h2, h3⟩ | ⟨h1, h2, h3⟩
  · exact .inl ⟨by simp [Dp.copies, h1, h3], h2⟩
  · exact .inr (by cases hl : o.l with
      | nil => exact absurd hl h3
      | cons c l => simp [Dp.literal, h1, h2, hl])
theorem Dp.fine.nice {o : Dp} (h : o.fine) : o.nice := by
  rcases h with ⟨h1, h2⟩ | h
  · simp only [Dp.copies, Bool.and_eq_true, decide_eq_true_eq, List.isEmpty_iff] at h1
    exact .inl ⟨h1.1, h2, h1.2⟩
  · simp only [Dp.literal, Bool.and_eq_true, decide_eq_true_eq, Bool.not_eq_true', List.isEmpty_eq_false_iff] at h
    exact .inr ⟨h.1.1, h.1.2, h.2⟩
/-- Neighbours that are not joined. -/
def apartD (x y : Dp) : Prop := ¬ (x.z = 0 ∧ y.z = 0) ∧ ¬ (0 < x.z ∧ 0 < y.z ∧ x.f + x.z = y.f)
def NormalD : List Dp → Prop
  | [] => True
  | [_] => True
  | x :: y :: os => apartD x y ∧ NormalD (y :: os)
theorem NormalD.snoc {y : Dp} : ∀ {A : List Dp} {x : Dp}, NormalD (A ++ [x]) → apartD x y → NormalD (A ++ [x] ++ [y])
  | [], _, _, h => ⟨h, trivial⟩
  | [_], _, h, h' => ⟨h.1, h', trivial⟩
  | _ :: b :: A, _, h, h' => ⟨h.1, NormalD.snoc (A := b :: A) h.2 h'⟩
theorem NormalD.last {x x' : Dp} (hf : ∀ a, apartD a x → apartD a x') : ∀ {A : List Dp}, NormalD (A ++ [x]) → NormalD (A ++ [x'])
  | [], _ => trivial
  | [a], h => ⟨hf a h.1, trivial⟩
  | _ :: b :: A, h => ⟨h.1, NormalD.last hf (A := b :: A) h.2⟩
theorem atomsD_snoc (A : List Dp) (y : Dp) : atomsD (A ++ [y]) = atomsD A ++ y.atoms := by simp [atomsD]
theorem atoms_copy (f n : Nat) (o : Dp) (hf : o.f = f) (hz : o.z = n) (hn : 0 < n) (hl : o.l = []) : o.atoms = srcs f n := by
  unfold Dp.atoms
  rw [if_pos (by simp [Dp.copies, hl]; omega), hf, hz]; rfl
theorem atoms_lit (o : Dp) (hz : o.z = 0) : o.atoms = o.l.map .lit := by
  unfold Dp.atoms
  rw [if_neg (by simp [Dp.copies]; omega)]
/-- Normal ops, each right in itself. -/
def Nm (os : List Dp) : Prop := NormalD os ∧ ∀ o ∈ os, o.nice
theorem addA_nm {acc : List Dp} (h : Nm acc) (x : Atom) : Nm (addA acc x) ∧ atomsD (addA acc x) = atomsD acc ++ [x] := by
  rcases List.eq_nil_or_concat acc with rfl | ⟨A, y, rfl⟩
  · cases x with
    | src i => exact ⟨⟨trivial, fun o ho => by
        obtain rfl : o = ⟨i, 1, []⟩ := by simpa [addA] using ho
        exact .inl ⟨by show (1 : Int) ≤ 1; omega, by show (0 : Int) ≤ i; omega, rfl⟩⟩, by
        show atomsD [⟨i, 1, []⟩] = [Atom.src i]
        rw [show ([⟨i, 1, []⟩] : List Dp) = [] ++ [⟨i, 1, []⟩] from rfl, atomsD_snoc, atoms_copy i 1 _ rfl rfl (by omega) rfl]; rfl⟩
    | lit c => exact ⟨⟨trivial, fun o ho => by
        obtain rfl : o = ⟨0, 0, [c]⟩ := by simpa [addA] using ho
        exact .inr ⟨rfl, rfl, by simp⟩⟩, by
        show atomsD [⟨0, 0, [c]⟩] = [Atom.lit c]
        rw [show ([⟨0, 0, [c]⟩] : List Dp) = [] ++ [⟨0, 0, [c]⟩] from rfl, atomsD_snoc, atoms_lit _ rfl]; rfl⟩
  · rw [List.concat_eq_append] at h ⊢
    obtain ⟨hn, hi⟩ := h
    have hy := hi y (by simp)
    have hA : ∀ o ∈ A, o.nice := fun o ho => hi o (by simp [ho])
    unfold addA
    rw [last_snoc]
    cases x with
    | src i =>
      simp only [List.dropLast_concat]
      split
      · rename_i hj
        have hyc : 0 ≤ y.f ∧ y.l = [] := by
          rcases hy with h | h
          · exact ⟨h.2.1, h.2.2⟩
          · omega
        refine ⟨⟨NormalD.last (fun a ha => ⟨by show ¬ (a.z = 0 ∧ y.z + 1 = 0); omega, by show ¬ (0 < a.z ∧ 0 < y.z + 1 ∧ a.f + a.z = y.f); have := ha.2; omega⟩) hn, fun o ho => ?_⟩, ?_⟩
        · rcases List.mem_append.1 ho with ho | ho
          · exact hA o ho
          · obtain rfl : o = { y with z := y.z + 1 } := by simpa using ho
            exact .inl ⟨by show 1 ≤ y.z + 1; omega, hyc.1, hyc.2⟩
        · obtain ⟨f, hf⟩ := Int.eq_ofNat_of_zero_le hyc.1
          obtain ⟨n, hz⟩ := Int.eq_ofNat_of_zero_le (show 0 ≤ y.z by omega)
          rw [atomsD_snoc, atomsD_snoc, atoms_copy f n y hf hz (by omega) hyc.2, atoms_copy f (n + 1) { y with z := y.z + 1 } hf (by show y.z + 1 = _; omega) (by omega) hyc.2, srcs_add n 1 f, List.append_assoc]
          congr 2
          show [Atom.src (f + n)] = [Atom.src i]
          congr 2
          omega
      · rename_i hj
        refine ⟨⟨hn.snoc ⟨by show ¬ (y.z = 0 ∧ (1 : Int) = 0); omega, by show ¬ (0 < y.z ∧ (0 : Int) < 1 ∧ y.f + y.z = i); omega⟩, fun o ho => ?_⟩, ?_⟩
        · rcases List.mem_append.1 ho with ho | ho
          · exact hi o ho
          · obtain rfl : o = ⟨i, 1, []⟩ := by simpa using ho
            exact .inl ⟨by show (1 : Int) ≤ 1; omega, by show (0 : Int) ≤ i; omega, rfl⟩
        · rw [atomsD_snoc (A ++ [y]), atoms_copy i 1 _ rfl rfl (by omega) rfl]; rfl
    | lit c =>
      simp only [List.dropLast_concat]
      split
      · rename_i hj
        refine ⟨⟨NormalD.last (x := y) (x' := { y with l := y.l ++ [c] }) (fun a ha => ha) hn, fun o ho => ?_⟩, ?_⟩
        · rcases List.mem_append.1 ho with ho | ho
          · exact hA o ho
          · obtain rfl : o = { y with l := y.l ++ [c] } := by simpa using ho
            rcases hy with h | h
            · omega
            · exact .inr ⟨hj, h.2.1, by show y.l ++ [c] ≠ []; simp⟩
        · rw [atomsD_snoc, atomsD_snoc, atoms_lit y hj, atoms_lit { y with l := y.l ++ [c] } hj, List.append_assoc]
          congr 1
          show (y.l ++ [c]).map Atom.lit = _
          rw [List.map_append]; rfl
      · rename_i hj
        refine ⟨⟨hn.snoc ⟨by show ¬ (y.z = 0 ∧ (0 : Int) = 0); omega, by show ¬ (0 < y.z ∧ (0 : Int) < 0 ∧ _); omega⟩, fun o ho => ?_⟩, ?_⟩
        · rcases List.mem_append.1 ho with ho | ho
          · exact hi o ho
          · obtain rfl : o = ⟨0, 0, [c]⟩ := by simpa using ho
            exact .inr ⟨rfl, rfl, by simp⟩
        · rw [atomsD_snoc (A ++ [y]), atoms_lit _ rfl]; rfl
theorem foldl_nm : ∀ (as : List Atom) (acc : List Dp), Nm acc → Nm (as.foldl addA acc) ∧ atomsD (as.foldl addA acc) = atomsD acc ++ as
  | [], acc, h => ⟨h, by simp⟩
  | x :: as, acc, h => by
    obtain ⟨h1, h2⟩ := addA_nm h x
    obtain ⟨h3, h4⟩ := foldl_nm as _ h1
    exact ⟨h3, by rw [List.foldl_cons, h4, h2]; simp⟩
theorem norm_nm (as : List Atom) : Nm (norm as) := (foldl_nm as [] ⟨trivial, fun o ho => by cases ho⟩).1
theorem atoms_norm (as : List Atom) : atomsD (norm as) = as := by
  have := (foldl_nm as [] ⟨trivial, fun o ho => by cases ho⟩).2
  simpa [atomsD, norm] using this
theorem norm_norm (as : List Atom) : normD (norm as) = norm as := by rw [normD_eq (fun o ho => ((norm_nm as).2 o ho).fine), atoms_norm]
/-- The number of ops does not fall. -/
theorem addA_length (acc : List Dp) (x : Atom) : acc.length ≤ (addA acc x).length ∧ (addA acc x).length ≤ acc.length + 1 := by
  rcases List.eq_nil_or_concat acc with rfl | ⟨A, y, rfl⟩
  · cases x <;> simp [addA]
  · rw [List.concat_eq_append]
    unfold addA
    rw [last_snoc]
    cases x <;> simp only [List.dropLast_concat] <;> split <;> simp
theorem foldl_length : ∀ (as : List Atom) (acc : List Dp), acc.length ≤ (as.foldl addA acc).length
  | [], _ => Nat.le_refl _
  | x :: as, acc => Nat.le_trans (addA_length acc x).1 (foldl_length as _)
theorem addD_length (acc : List Dp) (o : Dp) : acc.length ≤ (addD acc o).length ∧ (addD acc o).length ≤ acc.length + 1 := by
  rcases List.eq_nil_or_concat acc with rfl | ⟨A, y, rfl⟩
  · unfold addD; simp only [List.getLast?_nil]; split <;> simp
  · rw [List.concat_eq_append]
    unfold addD
    rw [last_snoc]
    simp only [List.dropLast_concat]
    split <;> split <;> simp

/-! ### What atoms read -/
def Atom.read (b : List UInt8) : Atom → UInt8
  | .src i => b[i]?.getD 0
  | .lit x => x
def Atom.below (n : Nat) : Atom → Prop
  | .src i => i < n
  | .lit _ => True
theorem srcs_read (b : List UInt8) : ∀ (n f : Nat), f + n ≤ b.length → (srcs f n).map (Atom.read b) = (b.drop f).take n
  | 0, _, _ => by simp [srcs]
  | n + 1, f, h => by
    have hf : f < b.length := by omega
    rw [srcs, List.map_cons, srcs_read b n (f + 1) (by omega), List.drop_eq_getElem_cons hf, List.take_succ_cons]
    congr 1
    show b[f]?.getD 0 = _
    rw [List.getElem?_eq_getElem hf]; rfl
theorem atoms_read {b : List UInt8} {o : Dp} (h : o.ok b.length) : o.atoms.map (Atom.read b) = o.app b := by
  unfold Dp.atoms Dp.app
  split
  · rename_i hc
    have hz : 1 ≤ o.z := by simp only [Dp.copies, Bool.and_eq_true, decide_eq_true_eq] at hc; exact hc.1
    have h' : 0 ≤ o.f ∧ o.f + o.z ≤ b.length := by
      rcases h with h | h
      · exact h.2
      · rw [Dp.copies_not_literal hc] at h; cases h
    exact srcs_read b _ _ (by omega)
  · rw [List.map_map]
    exact (List.map_congr_left fun x _ => rfl).trans (List.map_id _)
theorem atomsD_read {b : List UInt8} : ∀ {os : List Dp}, (∀ o ∈ os, o.ok b.length) → (atomsD os).map (Atom.read b) = appD b os
  | [], _ => rfl
  | o :: os, h => by
    rw [show atomsD (o :: os) = o.atoms ++ atomsD os by simp [atomsD], List.map_append, atoms_read (h o (List.mem_cons_self ..)), atomsD_read (fun x hx => h x (List.mem_cons_of_mem _ hx))]
    simp [appD]
theorem srcs_below : ∀ (n f m : Nat), f + n ≤ m → ∀ x ∈ srcs f n, x.below m
  | 0, _, _, _, x, hx => by cases hx
  | n + 1, f, m, h, x, hx => by
    rcases List.mem_cons.1 hx with rfl | hx
    · show f < m; omega
    · exact srcs_below n (f + 1) m (by omega) x hx
theorem atoms_below {n : Nat} {o : Dp} (h : o.ok n) : ∀ x ∈ o.atoms, x.below n := by
  intro x hx
  unfold Dp.atoms at hx
  split at hx
  · rename_i hc
    have hz : 1 ≤ o.z := by simp only [Dp.copies, Bool.and_eq_true, decide_eq_true_eq] at hc; exact hc.1
    have h' : 0 ≤ o.f ∧ o.f + o.z ≤ n := by
      rcases h with h | h
      · exact h.2
      · rw [Dp.copies_not_literal hc] at h; cases h
    exact srcs_below _ _ n (by omega) x hx
  · obtain ⟨c, -, rfl⟩ := List.mem_map.1 hx
    trivial
theorem atomsD_below {n : Nat} {os : List Dp} (h : ∀ o ∈ os, o.ok n) : ∀ x ∈ atomsD os, x.below n := fun x hx => by
  obtain ⟨o, ho, hx⟩ := List.mem_flatMap.1 hx
  exact atoms_below (h o ho) x hx
/-- A normal op whose atoms lie in the base is right. -/
theorem ok_of_below {n : Nat} {o : Dp} (h : o.nice) (hb : ∀ x ∈ o.atoms, x.below n) : o.ok n := by
  rcases h with ⟨h1, h2, h3⟩ | h
  · refine .inl ⟨by simp [Dp.copies, h1, h3], h2, ?_⟩
    obtain ⟨f, hf⟩ := Int.eq_ofNat_of_zero_le h2
    obtain ⟨m, hm⟩ : ∃ m : Nat, o.z = ((m + 1 : Nat) : Int) := ⟨o.z.toNat - 1, by omega⟩
    have h4 : Atom.src (f + m) ∈ o.atoms := by
      rw [atoms_copy f (m + 1) o hf hm (by omega) h3]
      exact List.mem_of_getElem? (srcs_get (m + 1) f m (by omega))
    have h5 : f + m < n := hb _ h4
    omega
  · have h' : o.nice := .inr h
    rcases h'.fine with h6 | h6
    · simp only [Dp.copies, Bool.and_eq_true, decide_eq_true_eq] at h6; omega
    · exact .inr h6
theorem norm_ok {n : Nat} {as : List Atom} (h : ∀ x ∈ as, x.below n) : ∀ o ∈ norm as, o.ok n := fun o ho =>
  ok_of_below ((norm_nm as).2 o ho) fun x hx => h x (by
    rw [← atoms_norm as]
    exact List.mem_flatMap.2 ⟨o, ho, hx⟩)

/-! ### Composing -/
def Atom.subst (A : List Atom) : Atom → Atom
  | .src i => A[i]?.getD (.src 0)
  | .lit x => .lit x
def compA (A B : List Atom) : List Atom := B.map (Atom.subst A)
theorem subst_below {A : List Atom} {n : Nat} {x : Atom} (hA : ∀ y ∈ A, y.below n) (hx : x.below A.length) : (x.subst A).below n := by
  cases x with
  | lit c => trivial
  | src i =>
    have h : i < A.length := hx
    show (A[i]?.getD (.src 0)).below n
    rw [List.getElem?_eq_getElem h]
    exact hA _ (List.getElem_mem h)
theorem compA_below {A B : List Atom} {n : Nat} (hA : ∀ y ∈ A, y.below n) (hB : ∀ y ∈ B, y.below A.length) : ∀ y ∈ compA A B, y.below n := fun y hy => by
  obtain ⟨x, hx, rfl⟩ := List.mem_map.1 hy
  exact subst_below hA (hB x hx)
theorem subst_read {A : List Atom} {b : List UInt8} {x : Atom} (hx : x.below A.length) : (x.subst A).read b = x.read (A.map (Atom.read b)) := by
  cases x with
  | lit c => rfl
  | src i =>
    have h : i < A.length := hx
    show (A[i]?.getD (.src 0)).read b = (A.map (Atom.read b))[i]?.getD 0
    rw [List.getElem?_map, List.getElem?_eq_getElem h]; rfl
theorem compA_read {A B : List Atom} {b : List UInt8} (hB : ∀ y ∈ B, y.below A.length) : (compA A B).map (Atom.read b) = B.map (Atom.read (A.map (Atom.read b))) := by
  unfold compA
  rw [List.map_map]
  exact List.map_congr_left fun x hx => subst_read (hB x hx)
theorem compA_assoc {A B C : List Atom} (hC : ∀ y ∈ C, y.below B.length) : compA (compA A B) C = compA A (compA B C) := by
  unfold compA
  rw [List.map_map]
  refine List.map_congr_left fun x hx => ?_
  cases x with
  | lit c => rfl
  | src i =>
    have h : i < B.length := hC _ hx
    show (B.map (Atom.subst A))[i]?.getD (.src 0) = (B[i]?.getD (.src 0)).subst A
    rw [List.getElem?_map, List.getElem?_eq_getElem h]; rfl
theorem srcs_subst (A : List Atom) : ∀ (n f : Nat), f + n ≤ A.length → (srcs f n).map (Atom.subst A) = (A.drop f).take n
  | 0, _, _ => by simp [srcs]
  | n + 1, f, h => by
    have hf : f < A.length := by omega
    rw [srcs, List.map_cons, srcs_subst A n (f + 1) (by omega), List.drop_eq_getElem_cons hf, List.take_succ_cons]
    congr 1
    show A[f]?.getD (.src 0) = _
    rw [List.getElem?_eq_getElem hf]; rfl
end Go.Proofs.Ytcljlglmnagodaa
