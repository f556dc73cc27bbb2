/-
  Plain laws of chains whose contents grow by one byte.
-/
import Derived.Test.YtcljlglmnagodaaMathC
namespace Go.Proofs.Ytcljlglmnagodaa

theorem matchF_stay {b T : List UInt8} {best : Nat} : ∀ (n s fr : Nat), (∀ x, s ≤ x → cmn (b.drop x) T ≤ best) → matchF b T n s best fr = (best, fr)
  | 0, _, _, _ => rfl
  | n + 1, s, fr, h => by
    unfold matchF
    rw [if_neg (by have := h s (Nat.le_refl _); omega)]
    exact matchF_stay n (s + 1) fr fun x hx => h x (by omega)
theorem cmn_app : ∀ (a b : List UInt8), cmn a (a ++ b) = a.length
  | [], b => by cases b <;> rfl
  | x :: a, b => by rw [List.cons_append]; unfold cmn; rw [if_pos rfl, cmn_app a b]; rfl
theorem make_snoc {c : List UInt8} (h : 4 ≤ c.length) (x : UInt8) : makeD c (c ++ [x]) = [⟨0, c.length, []⟩, ⟨0, 0, [x]⟩] := by
  have hm : matchD c (c ++ [x]) = (c.length, 0) := by
    unfold matchD
    obtain ⟨n, hn⟩ : ∃ n, c.length = n + 1 := ⟨c.length - 1, by omega⟩
    rw [hn]
    unfold matchF
    rw [List.drop_zero, cmn_app, if_pos (by omega), matchF_stay n 1 0 (fun s hs => by have := (cmn_le (c.drop s) (c ++ [x])).1; rw [List.length_drop] at this; omega), hn]
  unfold makeD
  rw [make_copy [] hm h, List.drop_left]
  have h1 : addD [] ⟨((0 : Nat) : Int), (c.length : Nat), []⟩ = [⟨0, c.length, []⟩] := by
    show addD [] _ = _
    unfold addD
    simp [Dp.copies]
    omega
  rw [h1, make_lit _ (by have := (matchD_bound c [x]).1; simp at this; omega)]
  show addD _ _ = _
  unfold addD
  simp [Dp.copies]
  intro h0
  subst h0
  simp at h
theorem enc_snoc {c : List UInt8} (h : 4 ≤ c.length) (h2 : c.length < 63) (x : UInt8) : encD (makeD c (c ++ [x])) = [2, UInt8.ofNat (2 * c.length + 1), 0, 2, x] := by
  rw [make_snoc h]
  have e1 : (2 * c.length + 1) < 128 := by omega
  have h1 : (1 : Int) ≤ (c.length : Int) := by omega
  simp [encD, encOps, Dp.enc, Dp.copies, enc_lt, e1, h1]
def a16 : List UInt8 := [97, 98, 99, 100, 101, 102, 103, 104, 105, 106, 107, 108, 109, 110, 111, 112]
def cont (x : UInt8) (i : Nat) : List UInt8 := a16 ++ List.replicate i x
theorem cont_len (x : UInt8) (i : Nat) : (cont x i).length = 16 + i := by unfold cont; rw [List.length_append, List.length_replicate]; rfl
theorem cont_succ (x : UInt8) (i : Nat) : cont x (i + 1) = cont x i ++ [x] := by unfold cont; rw [List.replicate_succ', List.append_assoc]
/-- What is so of the chain of growing contents. -/
def Deep (x : UInt8) (L : List Ln) (S : List (List UInt8 × Nat)) (n : Nat) : Prop := Val L S ∧ S.length = n ∧ ∀ i y, S[i]? = some y → y = (cont x i, i % 9)
theorem Deep.nil (x : UInt8) : Deep x [] [] 0 := ⟨Val.nil, rfl, fun i y h => by simp at h⟩
theorem Deep.step {x : UInt8} {L : List Ln} {S : List (List UInt8 × Nat)} {n : Nat} (h : Deep x L S n) (hn : n ≤ 40) : ∃ S', Deep x (L ++ [apL S (cont x n)]) S' (n + 1) := by
  obtain ⟨hV, hl, hS⟩ := h
  have key : ∀ d, lnS S (apL S (cont x n)) = ((cont x n, d), 0) → d = n % 9 → ∃ S', Deep x (L ++ [apL S (cont x n)]) S' (n + 1) := fun d h1 h2 => by
    refine ⟨S ++ [(cont x n, d)], hV.snoc h1, by rw [List.length_append, hl]; rfl, fun i y hy => ?_⟩
    by_cases hi : i < S.length
    · rw [List.getElem?_append_left hi] at hy; exact hS i y hy
    · have hi2 : i = S.length := by have := (List.getElem?_eq_some_iff.1 hy).1; rw [List.length_append, List.length_singleton] at this; omega
      subst hi2
      rw [List.getElem?_concat_length] at hy
      cases hy
      rw [hl, h2]
  have hc := cont_len x n
  rcases apL_ok (S := S) (b := cont x n) (by omega) with ⟨h1, h2⟩ | ⟨c, d, h1, h2, h3, h4, h5, h6, h7⟩
  · refine key 0 h2 ?_
    rcases Nat.eq_zero_or_pos n with h0 | h0
    · subst h0; rfl
    · obtain ⟨m, rfl⟩ : ∃ m, n = m + 1 := ⟨n - 1, by omega⟩
      obtain ⟨y, hy⟩ : ∃ y, S[m]? = some y := ⟨_, List.getElem?_eq_getElem (by omega)⟩
      have hy2 := hS m y hy
      have hlast : S.getLast? = some (cont x m, m % 9) := by rw [List.getLast?_eq_getElem?, hl]; rw [← hy2]; exact hy
      have hcm := cont_len x m
      by_cases hd : m % 9 < 8
      · exfalso
        have he := enc_snoc (c := cont x m) (by omega) (by omega) x
        rw [← cont_succ] at he
        have h9 : apL S (cont x (m + 1)) = ⟨((S.length - 1 : Nat) : Int), encD (makeD (cont x m) (cont x (m + 1)))⟩ := by
          unfold apL; rw [hlast]
          exact if_pos ⟨hd, by omega, by omega, by rw [he]; show 5 < _; omega⟩
        rw [h9] at h1
        have := congrArg Ln.b h1
        simp only at this
        omega
      · omega
  · refine key (d + 1) h7 ?_
    rcases Nat.eq_zero_or_pos n with h0 | h0
    · subst h0
      rw [List.eq_nil_of_length_eq_zero hl] at h1; cases h1
    · obtain ⟨m, rfl⟩ : ∃ m, n = m + 1 := ⟨n - 1, by omega⟩
      rw [List.getLast?_eq_getElem?, hl] at h1
      have h8 := hS m _ h1
      simp only [Prod.mk.injEq] at h8
      omega
theorem Deep.depth {x : UInt8} {L : List Ln} {S : List (List UInt8 × Nat)} {n i : Nat} (h : Deep x L S n) (hi : i < n) : (S.getD i ([], 0)).2 = i % 9 := by
  obtain ⟨y, hy⟩ : ∃ y, S[i]? = some y := ⟨_, List.getElem?_eq_getElem (by rw [h.2.1]; exact hi)⟩
  rw [List.getD_eq_getElem?_getD, hy, h.2.2 i y hy]
  rfl
/-! ### The example -/
def a8 : List UInt8 := [97, 97, 97, 97, 97, 97, 97, 97]
theorem known_app1 : apC [] a8 = ([⟨-1, a8⟩], 0) := by rw [apC_ok Val.nil (by decide) (by decide)]; rfl
theorem known_val1 : Val [⟨-1, a8⟩] [(a8, 0)] := by
  have h := Val.nil.snoc (x := ⟨-1, a8⟩) (lnS_full (acc := []) (l := a8) (by decide))
  simpa using h
theorem known_apl : apL [(a8, 0)] (a8 ++ [98]) = ⟨0, [2, 17, 0, 2, 98]⟩ := by
  have he := enc_snoc (c := a8) (by decide) (by decide) 98
  unfold apL
  show (if _ then _ else _) = _
  rw [if_pos ⟨by decide, by decide, by decide, by rw [he]; decide⟩, he]
  rfl
theorem known_app2 : apC [⟨-1, a8⟩] (a8 ++ [98]) = ([⟨-1, a8⟩, ⟨0, [2, 17, 0, 2, 98]⟩], 0) := by
  rw [apC_ok known_val1 (by decide) (by decide), known_apl]
  rfl
theorem known_st : ∃ S, stC [⟨-1, a8⟩, ⟨0, [2, 17, 0, 2, 98]⟩] = (S, 0) ∧ (S.getD 1 ([], 0)).2 = 1 := by
  have h1 : lnS [(a8, 0)] ⟨0, [2, 17, 0, 2, 98]⟩ = ((a8 ++ [98], 1), 0) := by
    have he := enc_snoc (c := a8) (by decide) (by decide) 98
    have hd : decD ((a8.length : Nat) : Int) (encD (makeD a8 (a8 ++ [98]))) = some (makeD a8 (a8 ++ [98])) := decD_enc (by rw [make_check (by decide) (by decide)])
    rw [he] at hd
    have h4 := lnS_lean (acc := [(a8, 0)]) (j := 0) (c := a8) (d := 0) rfl hd (by decide)
    rwa [make_turns] at h4
  have h2 := known_val1.snoc h1
  exact ⟨_, h2.st (by decide), rfl⟩
end Go.Proofs.Ytcljlglmnagodaa
