/-
  Plain laws of deltas: the longest match; what Make returns.
-/
import Derived.Test.YtcljlglmnagodaaMathE
namespace Go.Proofs.Ytcljlglmnagodaa

/-- The length of the longest common beginning. -/
def cmn : List UInt8 → List UInt8 → Nat
  | x :: a, y :: b => if x = y then cmn a b + 1 else 0
  | _, _ => 0
theorem cmn_nil_right : ∀ a : List UInt8, cmn a [] = 0
  | [] => rfl
  | _ :: _ => rfl
theorem cmn_le : ∀ (a b : List UInt8), cmn a b ≤ a.length ∧ cmn a b ≤ b.length
  | [], b => by simp [cmn]
  | x :: a, [] => by simp [cmn]
  | x :: a, y :: b => by
    unfold cmn
    have := cmn_le a b
    split <;> simp <;> omega
theorem cmn_take : ∀ (a b : List UInt8), a.take (cmn a b) = b.take (cmn a b)
  | [], b => by simp [cmn]
  | x :: a, [] => by simp [cmn]
  | x :: a, y :: b => by
    unfold cmn
    split
    · rename_i h; subst h; rw [List.take_succ_cons, List.take_succ_cons, cmn_take a b]
    · simp
theorem cmn_ge : ∀ (n : Nat) (a b : List UInt8), n ≤ cmn a b ↔ n ≤ a.length ∧ n ≤ b.length ∧ a.take n = b.take n
  | 0, a, b => by simp
  | n + 1, [], b => by simp [cmn]
  | n + 1, x :: a, [] => by simp [cmn]
  | n + 1, x :: a, y :: b => by
    unfold cmn
    have ih := cmn_ge n a b
    by_cases h : x = y
    · subst h
      rw [if_pos rfl, List.take_succ_cons, List.take_succ_cons, List.length_cons, List.length_cons]
      simp only [Nat.add_le_add_iff_right, List.cons.injEq, true_and]
      exact ih
    · rw [if_neg h, List.take_succ_cons, List.take_succ_cons]
      constructor
      · intro h'; omega
      · rintro ⟨-, -, h'⟩; exact absurd (List.cons.inj h').1 h
/-- Behind k equal bytes. -/
theorem cmn_step {a b : List UInt8} {k : Nat} {x y : UInt8} (ha : a[k]? = some x) (hb : b[k]? = some y) : cmn (a.drop k) (b.drop k) = if x = y then cmn (a.drop (k + 1)) (b.drop (k + 1)) + 1 else 0 := by
  obtain ⟨h1, rfl⟩ := List.getElem?_eq_some_iff.1 ha
  obtain ⟨h2, rfl⟩ := List.getElem?_eq_some_iff.1 hb
  rw [List.drop_eq_getElem_cons h1, List.drop_eq_getElem_cons h2]
  rfl
theorem cmn_out {a b : List UInt8} {k : Nat} (h : a.length ≤ k ∨ b.length ≤ k) : cmn (a.drop k) (b.drop k) = 0 := by
  rcases h with h | h
  · rw [List.drop_of_length_le h]; rfl
  · rw [List.drop_of_length_le h, cmn_nil_right]
/-- The longest match of a beginning of T, from s on: its length, its first occurrence. -/
def matchF (b T : List UInt8) : Nat → Nat → Nat → Nat → Nat × Nat
  | 0, _, best, fr => (best, fr)
  | n + 1, s, best, fr => if best < cmn (b.drop s) T then matchF b T n (s + 1) (cmn (b.drop s) T) s else matchF b T n (s + 1) best fr
def matchD (b T : List UInt8) : Nat × Nat := matchF b T b.length 0 0 0
theorem matchF_bound (b T : List UInt8) : ∀ (n s best fr : Nat), (best ≤ T.length ∧ (0 < best → fr + best ≤ b.length ∧ (b.drop fr).take best = T.take best)) → n + s ≤ b.length →
    (matchF b T n s best fr).1 ≤ T.length ∧ (0 < (matchF b T n s best fr).1 → (matchF b T n s best fr).2 + (matchF b T n s best fr).1 ≤ b.length ∧ (b.drop (matchF b T n s best fr).2).take (matchF b T n s best fr).1 = T.take (matchF b T n s best fr).1)
  | 0, s, best, fr, h, _ => h
  | n + 1, s, best, fr, h, hn => by
    unfold matchF
    have h1 := cmn_le (b.drop s) T
    split
    · refine matchF_bound b T n (s + 1) _ s ⟨h1.2, fun h0 => ⟨?_, cmn_take _ _⟩⟩ (by omega)
      rw [List.length_drop] at h1; omega
    · exact matchF_bound b T n (s + 1) best fr h (by omega)
theorem matchD_bound (b T : List UInt8) : (matchD b T).1 ≤ T.length ∧ (0 < (matchD b T).1 → (matchD b T).2 + (matchD b T).1 ≤ b.length ∧ (b.drop (matchD b T).2).take (matchD b T).1 = T.take (matchD b T).1) :=
  matchF_bound b T _ 0 0 0 ⟨Nat.zero_le _, fun h => absurd h (Nat.lt_irrefl 0)⟩ (by omega)
/-- The offsets, from s on, where the first four bytes of T stand. -/
def candF (b T : List UInt8) : Nat → Nat → List Nat
  | 0, _ => []
  | n + 1, s => if 4 ≤ cmn (b.drop s) T then s :: candF b T n (s + 1) else candF b T n (s + 1)
/-- The best of the candidates, as the program goes through them: from, length. -/
def bestF (b T : List UInt8) : List Nat → Nat × Nat → Nat × Nat
  | [], r => r
  | s :: ss, r => bestF b T ss (if r.2 < cmn (b.drop s) T then (s, cmn (b.drop s) T) else r)
theorem best_cand (b T : List UInt8) : ∀ (n s best fr : Nat) (r : Nat × Nat), (best < 4 ∧ r = (0, 0)) ∨ (4 ≤ best ∧ r = (fr, best)) →
    bestF b T (candF b T n s) r = if 4 ≤ (matchF b T n s best fr).1 then ((matchF b T n s best fr).2, (matchF b T n s best fr).1) else (0, 0)
  | 0, s, best, fr, r, h => by
    unfold candF matchF bestF
    rcases h with ⟨h1, rfl⟩ | ⟨h1, rfl⟩
    · rw [if_neg (by show ¬ 4 ≤ best; omega)]
    · rw [if_pos (by show 4 ≤ best; exact h1)]
  | n + 1, s, best, fr, r, h => by
    unfold candF matchF
    by_cases hk : 4 ≤ cmn (b.drop s) T
    · rw [if_pos hk]
      unfold bestF
      by_cases hb : best < cmn (b.drop s) T
      · rw [if_pos hb]
        have hr : r.2 < cmn (b.drop s) T := by rcases h with ⟨h1, rfl⟩ | ⟨h1, rfl⟩ <;> simp <;> omega
        rw [if_pos hr]
        exact best_cand b T n (s + 1) _ s _ (.inr ⟨hk, rfl⟩)
      · rw [if_neg hb]
        have hr : ¬ r.2 < cmn (b.drop s) T := by rcases h with ⟨h1, rfl⟩ | ⟨h1, rfl⟩ <;> simp <;> omega
        rw [if_neg hr]
        exact best_cand b T n (s + 1) best fr r h
    · rw [if_neg hk]
      by_cases hb : best < cmn (b.drop s) T
      · rw [if_pos hb]
        refine best_cand b T n (s + 1) _ s r (.inl ⟨by omega, ?_⟩)
        rcases h with ⟨h1, rfl⟩ | ⟨h1, rfl⟩
        · rfl
        · omega
      · rw [if_neg hb]
        exact best_cand b T n (s + 1) best fr r h
theorem best_is (b T : List UInt8) : bestF b T (candF b T b.length 0) (0, 0) = if 4 ≤ (matchD b T).1 then ((matchD b T).2, (matchD b T).1) else (0, 0) := best_cand b T b.length 0 0 0 (0, 0) (.inl ⟨by omega, rfl⟩)
theorem cand_mem (b T : List UInt8) : ∀ (n s x : Nat), x ∈ candF b T n s ↔ s ≤ x ∧ x < s + n ∧ 4 ≤ cmn (b.drop x) T
  | 0, s, x => by simp [candF]; omega
  | n + 1, s, x => by
    unfold candF
    have ih := cand_mem b T n (s + 1) x
    split
    · rename_i h
      rw [List.mem_cons, ih]
      constructor
      · rintro (rfl | h1)
        · exact ⟨Nat.le_refl _, by omega, h⟩
        · omega
      · intro h1
        by_cases hx : x = s
        · exact .inl hx
        · exact .inr (by omega)
    · rename_i h
      rw [ih]
      constructor
      · intro h1; omega
      · intro h1
        by_cases hx : x = s
        · subst hx; omega
        · omega

/-! ### Make -/
/-- The delta of the rest of a target behind a normal one. -/
def makeF (b : List UInt8) : Nat → List UInt8 → List Dp → List Dp
  | 0, _, acc => acc
  | n + 1, T, acc =>
    match T with
    | [] => acc
    | x :: T' => if 4 ≤ (matchD b T).1 then makeF b n (T.drop (matchD b T).1) (addD acc ⟨(matchD b T).2, (matchD b T).1, []⟩) else makeF b n T' (addD acc ⟨0, 0, [x]⟩)
def makeD (b T : List UInt8) : List Dp := makeF b T.length T []
def makeRes (b T : List UInt8) : List Dp × Int := if 2048 < b.length ∨ 2048 < T.length then ([], 262) else (makeD b T, 0)
theorem makeF_more (b : List UInt8) : ∀ (n m : Nat) (T : List UInt8) (acc : List Dp), T.length ≤ n → n ≤ m → makeF b m T acc = makeF b n T acc
  | 0, m, T, acc, h, _ => by
    obtain rfl : T = [] := List.eq_nil_of_length_eq_zero (by omega)
    cases m <;> rfl
  | n + 1, 0, _, _, _, h => by omega
  | n + 1, m + 1, [], acc, _, _ => rfl
  | n + 1, m + 1, x :: T, acc, h, h' => by
    unfold makeF
    simp only
    have hl := List.length_cons (a := x) (as := T)
    split
    · rename_i hk
      refine makeF_more b n m _ _ ?_ (by omega)
      rw [List.length_drop]; omega
    · exact makeF_more b n m _ _ (by omega) (by omega)
/-- One round. -/
theorem make_copy {b T : List UInt8} (acc : List Dp) {k fr : Nat} (hm : matchD b T = (k, fr)) (hk : 4 ≤ k) : makeF b T.length T acc = makeF b (T.drop k).length (T.drop k) (addD acc ⟨fr, k, []⟩) := by
  have hb := (matchD_bound b T).1
  rw [hm] at hb
  have hb' : k ≤ T.length := hb
  cases T with
  | nil => simp at hb'; omega
  | cons x T =>
    rw [List.length_cons, makeF, hm]
    simp only
    rw [if_pos hk]
    refine makeF_more b _ _ _ _ (Nat.le_refl _) ?_
    rw [List.length_drop, List.length_cons]; omega
theorem make_lit {b T : List UInt8} {x : UInt8} (acc : List Dp) (hm : ¬ 4 ≤ (matchD b (x :: T)).1) : makeF b (x :: T).length (x :: T) acc = makeF b T.length T (addD acc ⟨0, 0, [x]⟩) := by
  rw [List.length_cons, makeF, if_neg hm]
end Go.Proofs.Ytcljlglmnagodaa
