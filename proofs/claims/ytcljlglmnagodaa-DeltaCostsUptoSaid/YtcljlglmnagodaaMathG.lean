/-
  Plain laws of what Make returns: its result, its copies, its literals.
-/
import Derived.Test.YtcljlglmnagodaaMathF
namespace Go.Proofs.Ytcljlglmnagodaa

theorem addD_inv' {D : List Dp} {o : Dp} (h : Nm D) (ho : o.fine) : Nm (addD D o) ∧ atomsD (addD D o) = atomsD D ++ o.atoms := by
  rw [addD_atoms ho]; exact foldl_nm o.atoms D h
theorem addD_big {m : Int} {D : List Dp} {o : Dp} (h : ∀ x ∈ D, 1 ≤ x.z → m ≤ x.z) (ho : 1 ≤ o.z → m ≤ o.z) (h0 : 0 ≤ o.z) : ∀ x ∈ addD D o, 1 ≤ x.z → m ≤ x.z := by
  intro x hx h1
  unfold addD at hx
  have hn : ∀ l : List UInt8, x = ⟨0, 0, l⟩ → False := fun l e => by rw [e] at h1; have h2 : (1 : Int) ≤ 0 := h1; omega
  have hn2 : ∀ l : List UInt8, x = ⟨o.f, o.z, l⟩ → m ≤ x.z := fun l e => by rw [e] at h1 ⊢; exact ho h1
  rcases List.eq_nil_or_concat D with rfl | ⟨A, y, rfl⟩
  · simp only [List.getLast?_nil] at hx
    split at hx
    · exact hn2 [] (by simpa using hx)
    · exact (hn o.l (by simpa using hx)).elim
  · rw [List.concat_eq_append] at hx h
    rw [last_snoc] at hx
    simp only [List.dropLast_concat] at hx
    have hA : ∀ z ∈ A, 1 ≤ z.z → m ≤ z.z := fun z hz => h z (List.mem_append_left _ hz)
    have hy := h y (by simp)
    split at hx
    · split at hx
      · rename_i hj
        rcases List.mem_append.1 hx with hx | hx
        · exact hA x hx h1
        · rw [List.mem_singleton] at hx; subst hx
          have := hy (by omega)
          show m ≤ y.z + o.z
          omega
      · rcases List.mem_append.1 hx with hx | hx
        · exact h x hx h1
        · exact hn2 [] (by simpa using hx)
    · split at hx
      · rename_i hj
        rcases List.mem_append.1 hx with hx | hx
        · exact hA x hx h1
        · rw [List.mem_singleton] at hx; subst hx
          have h2 : (1 : Int) ≤ y.z := h1
          omega
      · rcases List.mem_append.1 hx with hx | hx
        · exact h x hx h1
        · exact (hn o.l (by simpa using hx)).elim

/-- What holds of a delta of the first p bytes of T, as Make goes. -/
structure MkInv (b T : List UInt8) (p : Nat) (D : List Dp) : Prop where
  nm : Nm D
  below : ∀ x ∈ atomsD D, x.below b.length
  len : (atomsD D).length = p
  read : (atomsD D).map (Atom.read b) = T.take p
  big : ∀ o ∈ D, 1 ≤ o.z → 4 ≤ o.z
  greedy : ∀ i c, (atomsD D)[i]? = some (.lit c) → (matchD b (T.drop i)).1 < 4
theorem MkInv.nil (b T : List UInt8) : MkInv b T 0 [] :=
  ⟨⟨trivial, fun o ho => by cases ho⟩, (fun x hx => by cases hx), rfl, rfl, (fun o ho => by cases ho), fun i c h => by cases h⟩
theorem MkInv.add {b T : List UInt8} {p : Nat} {D : List Dp} (h : MkInv b T p D) {o : Dp} (ho : o.ok b.length) (ha : o.app b = (T.drop p).take o.size) (hb : 1 ≤ o.z → 4 ≤ o.z) (h0 : 0 ≤ o.z)
    (hg : ∀ i c, o.atoms[i]? = some (.lit c) → (matchD b (T.drop (p + i))).1 < 4) : MkInv b T (p + o.size) (addD D o) := by
  obtain ⟨h1, h2⟩ := addD_inv' h.nm ho.fine
  refine ⟨h1, ?_, ?_, ?_, addD_big h.big hb h0, ?_⟩
  · rw [h2]; intro x hx
    rcases List.mem_append.1 hx with hx | hx
    · exact h.below x hx
    · exact atoms_below ho x hx
  · rw [h2, List.length_append, h.len, atoms_length]
  · rw [h2, List.map_append, h.read, atoms_read ho, ha, ← List.take_add]
  · intro i c hi
    rw [h2] at hi
    by_cases hip : i < p
    · rw [List.getElem?_append_left (by rw [h.len]; exact hip)] at hi
      exact h.greedy i c hi
    · rw [List.getElem?_append_right (by rw [h.len]; omega), h.len] at hi
      have := hg _ c hi
      rwa [show p + (i - p) = i by omega] at this
theorem MkInv.makeF {b T : List UInt8} : ∀ (n p : Nat) (D : List Dp), MkInv b T p D → p ≤ T.length → T.length ≤ p + n → MkInv b T T.length (makeF b n (T.drop p) D)
  | 0, p, D, h, hp, hn => by
    obtain rfl : p = T.length := by omega
    exact h
  | n + 1, p, D, h, hp, hn => by
    unfold Proofs.Ytcljlglmnagodaa.makeF
    cases hT : T.drop p with
    | nil =>
      have := congrArg List.length hT
      rw [List.length_drop] at this
      simp only [List.length_nil] at this
      obtain rfl : p = T.length := by omega
      exact h
    | cons x T' =>
      simp only
      have hl := congrArg List.length hT
      rw [List.length_drop, List.length_cons] at hl
      have hb := matchD_bound b (x :: T')
      split
      · rename_i h4
        obtain ⟨k, fr, hm⟩ : ∃ k fr, matchD b (x :: T') = (k, fr) := ⟨_, _, rfl⟩
        rw [hm] at hb h4 ⊢
        simp only at hb h4 ⊢
        obtain ⟨hb1, hb2⟩ := hb
        obtain ⟨hb3, hb4⟩ := hb2 (by omega)
        rw [List.length_cons] at hb1
        have hc : (⟨fr, k, []⟩ : Dp).copies = true := by simp [Dp.copies]; omega
        have hsz : (⟨fr, k, []⟩ : Dp).size = k := by unfold Dp.size; rw [if_pos hc]; rfl
        have ha := h.add (o := ⟨fr, k, []⟩) (.inl ⟨hc, by show (0 : Int) ≤ fr; omega, by show (fr : Int) + k ≤ b.length; omega⟩)
          (by unfold Dp.app; rw [if_pos hc, hsz, hT]; exact hb4) (fun _ => by show (4 : Int) ≤ k; omega) (by show (0 : Int) ≤ k; omega)
          (fun i c hi => by
            unfold Dp.atoms at hi
            rw [if_pos hc] at hi
            simp only [Int.toNat_natCast] at hi
            have hil : i < k := by
              have := (List.getElem?_eq_some_iff.1 hi).1
              rwa [srcs_length] at this
            rw [srcs_get k fr i hil] at hi
            cases hi)
        rw [hsz] at ha
        have := MkInv.makeF n (p + k) _ ha (by omega) (by omega)
        rwa [← List.drop_drop, hT] at this
      · rename_i h4
        have hc : (⟨0, 0, [x]⟩ : Dp).copies = false := by simp [Dp.copies]
        have hsz : (⟨0, 0, [x]⟩ : Dp).size = 1 := by unfold Dp.size; rw [hc]; rfl
        have ha := h.add (o := ⟨0, 0, [x]⟩) (.inr (by simp [Dp.literal])) (by unfold Dp.app; rw [hsz, hT, hc]; rfl) (fun h => by have h2 : (1 : Int) ≤ 0 := h; omega) (Int.le_refl _)
          (fun i c hi => by
            unfold Dp.atoms at hi
            rw [hc] at hi
            have hil : i < 1 := by simpa using (List.getElem?_eq_some_iff.1 hi).1
            obtain rfl : i = 0 := by omega
            rw [Nat.add_zero, hT]; omega)
        rw [hsz] at ha
        have := MkInv.makeF n (p + 1) _ ha (by omega) (by omega)
        rwa [← List.drop_drop, hT, List.drop_succ_cons, List.drop_zero] at this
theorem make_inv (b T : List UInt8) : MkInv b T T.length (makeD b T) := by
  have := MkInv.makeF (b := b) (T := T) T.length 0 [] (MkInv.nil b T) (Nat.zero_le _) (by omega)
  rwa [List.drop_zero] at this
theorem MkInv.ok {b T : List UInt8} {p : Nat} {D : List Dp} (h : MkInv b T p D) : ∀ o ∈ D, o.ok b.length := fun o ho =>
  ok_of_below (h.nm.2 o ho) fun x hx => h.below x (by unfold atomsD; exact List.mem_flatMap.2 ⟨o, ho, hx⟩)
/-- The delta turns base into target. -/
theorem make_turns (b T : List UInt8) : appD b (makeD b T) = T := by
  have h := make_inv b T
  rw [← atomsD_read h.ok, h.read, List.take_length]
theorem make_size (b T : List UInt8) : sizeD (makeD b T) = T.length := by
  have h := make_inv b T
  rw [← atomsD_length, h.len]

/-! ### A string of itself; a string of other bytes -/
theorem matchF_full (b T : List UInt8) : ∀ (n s fr : Nat), matchF b T n s T.length fr = (T.length, fr)
  | 0, _, _ => rfl
  | n + 1, s, fr => by
    unfold matchF
    have := (cmn_le (b.drop s) T).2
    rw [if_neg (by omega)]
    exact matchF_full b T n (s + 1) fr
theorem cmn_self : ∀ a : List UInt8, cmn a a = a.length
  | [] => rfl
  | x :: a => by unfold cmn; rw [if_pos rfl, cmn_self a]; rfl
theorem matchD_self (a : List UInt8) : matchD a a = (a.length, 0) := by
  unfold matchD
  cases h : a.length with
  | zero => rfl
  | succ n =>
    unfold matchF
    rw [List.drop_zero, cmn_self, if_pos (by omega), matchF_full, h]
theorem make_self {a : List UInt8} (h : 4 ≤ a.length) : makeD a a = [⟨0, a.length, []⟩] := by
  unfold makeD
  rw [make_copy [] (matchD_self a) h, List.drop_length]
  show addD [] _ = _
  unfold addD
  rw [if_pos (by simp [Dp.copies]; omega)]
  rfl
theorem matchF_none {b T : List UInt8} (h : ∀ s, cmn (b.drop s) T = 0) : ∀ (n s fr : Nat), matchF b T n s 0 fr = (0, fr)
  | 0, _, _ => rfl
  | n + 1, s, fr => by
    unfold matchF
    rw [if_neg (by rw [h s]; omega)]
    exact matchF_none h n (s + 1) fr
theorem cmn_apart {b T : List UInt8} {x : UInt8} (h : x ∉ b) : cmn b (x :: T) = 0 := by
  cases b with
  | nil => rfl
  | cons y b => unfold cmn; rw [if_neg (fun e => h (by rw [e]; exact List.mem_cons_self ..))]
theorem makeF_apart {b : List UInt8} {x : UInt8} (h : x ∉ b) : ∀ (n j : Nat), makeF b n (List.replicate n x) [⟨0, 0, List.replicate (j + 1) x⟩] = [⟨0, 0, List.replicate (j + 1 + n) x⟩]
  | 0, j => rfl
  | n + 1, j => by
    have hm : matchD b (x :: List.replicate n x) = (0, 0) := matchF_none (fun s => cmn_apart (fun hx => h (List.mem_of_mem_drop hx))) _ _ _
    rw [List.replicate_succ]
    unfold makeF
    simp only
    rw [hm, if_neg (by decide)]
    have : addD [⟨0, 0, List.replicate (j + 1) x⟩] ⟨0, 0, [x]⟩ = [⟨0, 0, List.replicate (j + 1 + 1) x⟩] := by
      unfold addD
      simp only [List.getLast?_singleton, Dp.copies]
      simp [List.replicate_succ']
    rw [this, makeF_apart h n (j + 1)]
    congr 3; omega
theorem make_apart {b : List UInt8} {x : UInt8} (h : x ∉ b) (n : Nat) : makeD b (List.replicate (n + 1) x) = [⟨0, 0, List.replicate (n + 1) x⟩] := by
  have hm : matchD b (x :: List.replicate n x) = (0, 0) := matchF_none (fun s => cmn_apart (fun hx => h (List.mem_of_mem_drop hx))) _ _ _
  unfold makeD
  rw [List.length_replicate, List.replicate_succ]
  unfold makeF
  simp only
  rw [hm, if_neg (by decide)]
  have : addD [] ⟨0, 0, [x]⟩ = [⟨0, 0, List.replicate (0 + 1) x⟩] := by
    unfold addD
    simp [Dp.copies]
  rw [this, makeF_apart h n 0, ← List.replicate_succ]
  congr 3; omega
end Go.Proofs.Ytcljlglmnagodaa
