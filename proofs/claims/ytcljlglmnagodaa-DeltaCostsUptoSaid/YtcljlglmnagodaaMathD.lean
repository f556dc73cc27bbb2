/-
  Plain laws of deltas: ops as data, atoms, the normal form.
-/
import Derived.Test.YtcljlglmnagodaaMathA
namespace Go.Proofs.Ytcljlglmnagodaa

/-- An op as data. -/
structure Dp where
  f : Int
  z : Int
  l : List UInt8
deriving DecidableEq
def Dp.copies (o : Dp) : Bool := decide (1 ≤ o.z) && o.l.isEmpty
def Dp.literal (o : Dp) : Bool := decide (o.z = 0) && decide (o.f = 0) && !o.l.isEmpty
def Dp.size (o : Dp) : Nat := if o.copies then o.z.toNat else o.l.length
/-- What Check answers behind ops of n bytes. -/
def ckF (base : Int) : Nat → List Dp → Int × Int
  | n, [] => (n, 0)
  | n, o :: os =>
    if o.copies = false ∧ o.literal = false then (0, 260)
    else if o.copies = true ∧ (o.f < 0 ∨ base < o.f ∨ base - o.f < o.z) then (0, 261)
    else if 1048576 < n + o.size then (0, 262) else ckF base (n + o.size) os
def ckRes (base : Int) (os : List Dp) : Int × Int := if base < 0 ∨ 1048576 < base then (0, 262) else if 4096 < os.length then (0, 263) else ckF base 0 os
/-- A right op on a base of that size. -/
def Dp.ok (base : Int) (o : Dp) : Prop := (o.copies = true ∧ 0 ≤ o.f ∧ o.f + o.z ≤ base) ∨ o.literal = true
def sizeD (os : List Dp) : Nat := (os.map Dp.size).sum
theorem Dp.copies_not_literal {o : Dp} (h : o.copies = true) : o.literal = false := by
  simp only [Dp.copies, Bool.and_eq_true, decide_eq_true_eq] at h
  unfold Dp.literal
  rw [h.2]; simp
theorem ckF_ok {base : Int} (hb : base ≤ 1048576) : ∀ (os : List Dp) (n : Nat) (r : Int), ckF base n os = (r, 0) → (∀ o ∈ os, o.ok base) ∧ r = ((n + sizeD os : Nat) : Int) ∧ (os = [] ∨ n + sizeD os ≤ 1048576)
  | [], n, r, h => by
    simp only [ckF, Prod.mk.injEq] at h
    exact ⟨(fun o ho => by cases ho), by rw [← h.1]; simp [sizeD], .inl rfl⟩
  | o :: os, n, r, h => by
    unfold ckF at h
    split at h
    · simp at h
    · rename_i h1
      split at h
      · simp at h
      · rename_i h2
        split at h
        · simp at h
        · rename_i h3
          obtain ⟨g1, g2, g3⟩ := ckF_ok hb os _ r h
          have hs : sizeD (o :: os) = o.size + sizeD os := by simp [sizeD]
          refine ⟨fun x hx => ?_, by rw [g2, hs, Nat.add_assoc], .inr ?_⟩
          · rcases List.mem_cons.1 hx with rfl | hx
            · by_cases hc : x.copies = true
              · exact .inl ⟨hc, by
                  have h4 : ¬ (x.f < 0 ∨ base < x.f ∨ base - x.f < x.z) := fun h => h2 ⟨hc, h⟩
                  omega⟩
              · exact .inr (by
                  have hc' : x.copies = false := by simpa using hc
                  have : ¬ x.literal = false := fun h => h1 ⟨hc', h⟩
                  simpa using this)
            · exact g1 x hx
          · rcases g3 with rfl | g3
            · simp [sizeD]; omega
            · omega
theorem ckF_mk {base : Int} (hb : base ≤ 1048576) : ∀ (os : List Dp) (n : Nat), (∀ o ∈ os, o.ok base) → n + sizeD os ≤ 1048576 → ckF base n os = (((n + sizeD os : Nat) : Int), 0)
  | [], n, _, _ => by simp [ckF, sizeD]
  | o :: os, n, h, hn => by
    have hs : sizeD (o :: os) = o.size + sizeD os := by simp [sizeD]
    have ho := h o (List.mem_cons_self ..)
    unfold ckF
    have h1 : ¬ (o.copies = false ∧ o.literal = false) := by
      rcases ho with h | h
      · intro hh; rw [h.1] at hh; cases hh.1
      · intro hh; rw [h] at hh; cases hh.2
    have h2 : ¬ (o.copies = true ∧ (o.f < 0 ∨ base < o.f ∨ base - o.f < o.z)) := by
      rintro ⟨hc, hh⟩
      rcases ho with h | h
      · have hz : 1 ≤ o.z := by simp only [Dp.copies, Bool.and_eq_true, decide_eq_true_eq] at hc; exact hc.1
        omega
      · rw [Dp.copies_not_literal hc] at h; cases h
    rw [if_neg h1, if_neg h2, if_neg (by omega), ckF_mk hb os _ (fun x hx => h x (List.mem_cons_of_mem _ hx)) (by omega), hs, Nat.add_assoc]
theorem ckF_err {base : Int} : ∀ (os : List Dp) (n : Nat), (ckF base n os).2 ≠ 0 → (ckF base n os).1 = 0
  | [], n, h => by simp [ckF] at h
  | o :: os, n, h => by
    unfold ckF at h ⊢
    split
    · rfl
    · rename_i h1
      rw [if_neg h1] at h
      split
      · rfl
      · rename_i h2
        rw [if_neg h2] at h
        split
        · rfl
        · rename_i h3
          rw [if_neg h3] at h
          exact ckF_err os _ h
theorem ckRes_err {base : Int} {os : List Dp} {n e : Int} (h : ckRes base os = (n, e)) (he : e ≠ 0) : n = 0 := by
  unfold ckRes at h
  split at h
  · simp only [Prod.mk.injEq] at h; exact h.1.symm
  · split at h
    · simp only [Prod.mk.injEq] at h; exact h.1.symm
    · have := ckF_err os 0 (base := base) (by rw [h]; exact he)
      rw [h] at this; exact this
theorem ckRes_ok {base : Int} {os : List Dp} {n : Int} (h : ckRes base os = (n, 0)) : (∀ o ∈ os, o.ok base) ∧ n = (sizeD os : Int) ∧ sizeD os ≤ 1048576 ∧ 0 ≤ base ∧ base ≤ 1048576 ∧ os.length ≤ 4096 := by
  unfold ckRes at h
  split at h
  · simp at h
  · split at h
    · simp at h
    · obtain ⟨h1, h2, h3⟩ := ckF_ok (by omega) os 0 n h
      rw [Nat.zero_add] at h2 h3
      refine ⟨h1, h2, ?_, by omega, by omega, by omega⟩
      rcases h3 with rfl | h3
      · simp [sizeD]
      · exact h3
theorem ckRes_mk {base : Int} {os : List Dp} (h0 : 0 ≤ base) (hb : base ≤ 1048576) (h : ∀ o ∈ os, o.ok base) (hn : sizeD os ≤ 1048576) (hl : os.length ≤ 4096) : ckRes base os = ((sizeD os : Int), 0) := by
  unfold ckRes
  rw [if_neg (by omega), if_neg (by omega), ckF_mk hb os 0 h (by omega), Nat.zero_add]

/-! ### What a delta makes -/
def Dp.app (b : List UInt8) (o : Dp) : List UInt8 := if o.copies then (b.drop o.f.toNat).take o.z.toNat else o.l
def appD (b : List UInt8) (os : List Dp) : List UInt8 := os.flatMap (Dp.app b)
def apRes (b : List UInt8) (os : List Dp) : List UInt8 × Int := if (ckRes b.length os).2 = 0 then (appD b os, 0) else ([], (ckRes b.length os).2)

/-! ### Atoms: where each byte comes from -/
inductive Atom where
  | src (i : Nat)
  | lit (x : UInt8)
deriving DecidableEq
def srcs (f : Nat) : Nat → List Atom
  | 0 => []
  | n + 1 => .src f :: srcs (f + 1) n
def Dp.atoms (o : Dp) : List Atom := if o.copies then srcs o.f.toNat o.z.toNat else o.l.map .lit
def atomsD (os : List Dp) : List Atom := os.flatMap Dp.atoms
theorem srcs_length : ∀ (n f : Nat), (srcs f n).length = n
  | 0, _ => rfl
  | n + 1, f => by rw [srcs, List.length_cons, srcs_length n]
theorem srcs_get : ∀ (n f i : Nat), i < n → (srcs f n)[i]? = some (.src (f + i))
  | 0, _, _, h => by omega
  | n + 1, f, 0, _ => rfl
  | n + 1, f, i + 1, h => by
    rw [srcs, List.getElem?_cons_succ, srcs_get n (f + 1) i (by omega)]
    congr 2; omega
theorem srcs_add : ∀ (m n f : Nat), srcs f (m + n) = srcs f m ++ srcs (f + m) n
  | 0, n, f => by simp [srcs]
  | m + 1, n, f => by
    rw [show m + 1 + n = (m + n) + 1 by omega, srcs, srcs, srcs_add m n (f + 1), List.cons_append]
    congr 2; congr 1; omega
theorem atoms_length (o : Dp) : o.atoms.length = o.size := by
  unfold Dp.atoms Dp.size
  split
  · exact srcs_length _ _
  · exact List.length_map ..
theorem atomsD_length (os : List Dp) : (atomsD os).length = sizeD os := by
  induction os with
  | nil => rfl
  | cons o os ih =>
    have h1 : atomsD (o :: os) = o.atoms ++ atomsD os := by simp [atomsD]
    have h2 : sizeD (o :: os) = o.size + sizeD os := by simp [sizeD]
    rw [h1, h2, List.length_append, ih, atoms_length]
/-- One more atom behind a normal delta. -/
def addA (acc : List Dp) (x : Atom) : List Dp :=
  match acc.getLast?, x with
  | some y, .src i => if 0 < y.z ∧ y.f + y.z = i then acc.dropLast ++ [{ y with z := y.z + 1 }] else acc ++ [⟨i, 1, []⟩]
  | some y, .lit c => if y.z = 0 then acc.dropLast ++ [{ y with l := y.l ++ [c] }] else acc ++ [⟨0, 0, [c]⟩]
  | none, .src i => [⟨i, 1, []⟩]
  | none, .lit c => [⟨0, 0, [c]⟩]
def norm (as : List Atom) : List Dp := as.foldl addA []
/-- One more op behind a normal delta, as the program adds it. -/
def addD (acc : List Dp) (o : Dp) : List Dp :=
  match acc.getLast? with
  | some y =>
    if o.copies then (if 0 < y.z ∧ y.f + y.z = o.f then acc.dropLast ++ [{ y with z := y.z + o.z }] else acc ++ [⟨o.f, o.z, []⟩])
    else (if y.z = 0 then acc.dropLast ++ [{ y with l := y.l ++ o.l }] else acc ++ [⟨0, 0, o.l⟩])
  | none => if o.copies then [⟨o.f, o.z, []⟩] else [⟨0, 0, o.l⟩]
theorem last_snoc (A : List Dp) (y : Dp) : (A ++ [y]).getLast? = some y := by simp
theorem addA_srcs (A : List Dp) : ∀ (n f : Nat) (y : Dp), 0 < y.z → y.f + y.z = (f : Int) → (srcs f n).foldl addA (A ++ [y]) = A ++ [{ y with z := y.z + n }]
  | 0, f, y, _, _ => by simp [srcs]
  | n + 1, f, y, h1, h2 => by
    rw [srcs, List.foldl_cons]
    have h3 : addA (A ++ [y]) (.src f) = A ++ [{ y with z := y.z + 1 }] := by
      unfold addA
      rw [last_snoc]
      simp only [h1, h2, and_self, if_true, List.dropLast_concat]
    rw [h3, addA_srcs A n (f + 1) _ (by show 0 < y.z + 1; omega) (by show y.f + (y.z + 1) = _; omega)]
    congr 3
    show y.z + 1 + (n : Int) = y.z + ((n + 1 : Nat) : Int)
    omega
theorem addA_lits (A : List Dp) : ∀ (l : List UInt8) (y : Dp), y.z = 0 → (l.map Atom.lit).foldl addA (A ++ [y]) = A ++ [{ y with l := y.l ++ l }]
  | [], y, _ => by simp
  | c :: l, y, h => by
    rw [List.map_cons, List.foldl_cons]
    have h3 : addA (A ++ [y]) (.lit c) = A ++ [{ y with l := y.l ++ [c] }] := by
      unfold addA
      rw [last_snoc]
      simp only [h, if_true, List.dropLast_concat]
    rw [h3, addA_lits A l { y with l := y.l ++ [c] } h]
    simp
theorem addD_atoms {acc : List Dp} {o : Dp} (ho : (o.copies = true ∧ 0 ≤ o.f) ∨ o.literal = true) : addD acc o = o.atoms.foldl addA acc := by
  by_cases hc : o.copies = true
  · have h0 : 0 ≤ o.f := by
      rcases ho with h | h
      · exact h.2
      · rw [Dp.copies_not_literal hc] at h; cases h
    have hz : 1 ≤ o.z := by simp only [Dp.copies, Bool.and_eq_true, decide_eq_true_eq] at hc; exact hc.1
    obtain ⟨f, hf⟩ := Int.eq_ofNat_of_zero_le h0
    obtain ⟨n, hn⟩ : ∃ n : Nat, o.z = ((n + 1 : Nat) : Int) := ⟨o.z.toNat - 1, by omega⟩
    have hat : o.atoms = srcs f (n + 1) := by unfold Dp.atoms; rw [if_pos hc, hf, hn]; rfl
    rw [hat, srcs, List.foldl_cons]
    rcases List.eq_nil_or_concat acc with rfl | ⟨A, y, rfl⟩
    · have h1 : addA [] (.src f) = [] ++ [⟨f, 1, []⟩] := rfl
      rw [h1, addA_srcs [] n (f + 1) _ (by show (0 : Int) < 1; decide) (by show (f : Int) + 1 = _; omega)]
      unfold addD
      simp only [List.getLast?_nil, hc, if_true, List.nil_append]
      rw [hf, hn]
      congr 2
      show ((n + 1 : Nat) : Int) = 1 + (n : Int)
      omega
    · rw [List.concat_eq_append]
      unfold addD
      rw [last_snoc]
      simp only [hc, if_true, List.dropLast_concat]
      by_cases hj : 0 < y.z ∧ y.f + y.z = o.f
      · have h1 : addA (A ++ [y]) (.src f) = A ++ [{ y with z := y.z + 1 }] := by
          unfold addA
          rw [last_snoc]
          simp only [List.dropLast_concat]
          rw [if_pos (by rw [← hf]; exact hj)]
        rw [if_pos hj, h1, addA_srcs A n (f + 1) _ (by show 0 < y.z + 1; omega) (by show y.f + (y.z + 1) = _; omega)]
        congr 3
        show y.z + o.z = y.z + 1 + (n : Int)
        omega
      · have h1 : addA (A ++ [y]) (.src f) = (A ++ [y]) ++ [⟨f, 1, []⟩] := by
          unfold addA
          rw [last_snoc]
          simp only
          rw [if_neg (by rw [← hf]; exact hj)]
        rw [if_neg hj, h1, addA_srcs (A ++ [y]) n (f + 1) _ (by show (0 : Int) < 1; decide) (by show (f : Int) + 1 = _; omega), hf, hn]
        congr 2
        show Dp.mk (f : Int) ((n + 1 : Nat) : Int) [] = ⟨f, 1 + (n : Int), []⟩
        congr 1
        omega
  · have hc' : o.copies = false := by simpa using hc
    have hl : o.literal = true := by
      rcases ho with h | h
      · exact absurd h.1 hc
      · exact h
    have hne : o.l ≠ [] := by
      simp only [Dp.literal, Bool.and_eq_true, decide_eq_true_eq, Bool.not_eq_true'] at hl
      intro h; rw [h] at hl; simp at hl
    have hat : o.atoms = o.l.map .lit := by unfold Dp.atoms; rw [if_neg hc]
    obtain ⟨c, l, hcl⟩ : ∃ c l, o.l = c :: l := by
      cases h : o.l with
      | nil => exact absurd h hne
      | cons c l => exact ⟨c, l, rfl⟩
    rw [hat, hcl, List.map_cons, List.foldl_cons]
    rcases List.eq_nil_or_concat acc with rfl | ⟨A, y, rfl⟩
    · have h1 : addA [] (.lit c) = [] ++ [⟨0, 0, [c]⟩] := rfl
      rw [h1, addA_lits [] l _ rfl]
      unfold addD
      simp only [List.getLast?_nil, hc', List.nil_append, hcl]
      rfl
    · rw [List.concat_eq_append]
      unfold addD
      rw [last_snoc]
      simp only [hc', List.dropLast_concat, hcl]
      by_cases hj : y.z = 0
      · have h1 : addA (A ++ [y]) (.lit c) = A ++ [{ y with l := y.l ++ [c] }] := by
          unfold addA
          rw [last_snoc]
          simp only [List.dropLast_concat]
          rw [if_pos hj]
        rw [h1, addA_lits A l { y with l := y.l ++ [c] } hj]
        simp [hj]
      · have h1 : addA (A ++ [y]) (.lit c) = (A ++ [y]) ++ [⟨0, 0, [c]⟩] := by
          unfold addA
          rw [last_snoc]
          simp only
          rw [if_neg hj]
        rw [h1, addA_lits (A ++ [y]) l _ rfl]
        simp [hj]
end Go.Proofs.Ytcljlglmnagodaa
