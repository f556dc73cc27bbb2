/-
  Plain laws of packs: frames in bytes.
-/
import Derived.Test.YtncdcpaelecikaaPackF
import Derived.Test.YtncdcpaelecikaaMathB
namespace Go.Proofs.Ytncdcpaelecikaa

/-- A chunk as data. -/
def dk (s : Nat) (z : Int) (l : List UInt8) : Ck := ⟨s, z, none, 0, 0, l⟩
def Ck.d (k : Ck) : Ck := dk k.s k.z k.l
/-- The Uint at an offset, and the offset behind it. -/
def uintOk (l : List UInt8) (at_ : Nat) : Option (Nat × Nat) := if (uintRes l at_).2.2 = 0 then some ((uintRes l at_).1, (uintRes l at_).2.1.toNat) else none

theorem uint_cases (l : List UInt8) (at_ : Nat) : (∃ v nx, uintOk l at_ = some (v, nx) ∧ uintRes l at_ = (v, (nx : Int), 0) ∧ at_ < nx ∧ nx ≤ at_ + 10 ∧ nx ≤ l.length ∧ v ≤ 18446744073709551615) ∨
    (uintOk l at_ = none ∧ ∃ e, uintRes l at_ = (0, 0, e) ∧ (e = 10 ∨ e = 11 ∨ e = 12)) := by
  by_cases h : at_ ≤ l.length
  · rcases decF_spec (l.drop at_) 0 0 (by omega) (by simp) with ⟨h0, h1, h2, h3, h4⟩ | ⟨e, he, he'⟩
    · left
      have hr : uintRes l at_ = ((decU (l.drop at_)).1, (at_ : Int) + (decU (l.drop at_)).2.1, 0) := by
        rw [uintRes_in h]; exact if_pos h0
      have hlen : (l.drop at_).length = l.length - at_ := List.length_drop
      have h5 : (decU (l.drop at_)).2.1 ≤ l.length - at_ := by have : (decF 0 0 (l.drop at_)).2.1 ≤ 0 + (l.drop at_).length := h3; unfold decU; omega
      have h6 : 0 < (decU (l.drop at_)).2.1 := h2
      have h7 : (decU (l.drop at_)).2.1 ≤ 10 := h4
      have h8 : (decU (l.drop at_)).1 < 2 ^ 64 := h1
      refine ⟨(decU (l.drop at_)).1, at_ + (decU (l.drop at_)).2.1, ?_, by rw [hr]; simp, by omega, by omega, by omega, by omega⟩
      unfold uintOk
      rw [hr, if_pos rfl]
      simp
      omega
    · right
      have hr : uintRes l at_ = (0, 0, e) := uintRes_no h he (by rcases he' with rfl | rfl <;> decide)
      refine ⟨?_, e, hr, by rcases he' with rfl | rfl <;> simp⟩
      unfold uintOk
      rw [hr, if_neg (by rcases he' with rfl | rfl <;> decide)]
  · right
    have hr := uintRes_out (l := l) (k := at_) (by omega)
    exact ⟨by unfold uintOk; rw [hr, if_neg (by decide)], 10, hr, by simp⟩

/-- The frame whose size begins at an offset, behind the chunk p: the chunk and the offset behind it, or the error. -/
def frameAt (l : List UInt8) (at_ : Nat) (p : Option Ck) : Except Int (Ck × Nat) :=
  match uintOk l at_ with
  | none => .error 293
  | some (z, a1) =>
    match uintOk l a1 with
    | none => .error 293
    | some (s, a2) =>
      if z < 1 ∨ 8192 < z ∨ l.length < a2 + z then .error 293
      else if rightB s z ((l.drop a2).take z) = false then .error 290
      else if behindB p (dk s z ((l.drop a2).take z)) = false then .error 291
      else .ok (dk s z ((l.drop a2).take z), a2 + z)
/-- The frames from an offset on. -/
def salvF (l : List UInt8) : Nat → Nat → List Ck → List Ck × Nat
  | 0, at_, acc => (acc, at_)
  | n + 1, at_, acc =>
    if l[at_]? = some 1 then
      match frameAt l (at_ + 1) acc.getLast? with
      | .ok (k, nx) => salvF l n nx (acc ++ [k])
      | .error _ => (acc, at_)
    else (acc, at_)
/-- What stops the frames. -/
def stopE (l : List UInt8) (at_ : Nat) (acc : List Ck) : Int :=
  match l[at_]? with
  | none => 293
  | some x => if x = 0 then 0 else if x = 1 then (match frameAt l (at_ + 1) acc.getLast? with | .error e => e | .ok _ => 293) else 293
def salv (l : List UInt8) : List Ck × Nat := salvF l l.length 4 []

theorem frame_next {l : List UInt8} {at_ nx : Nat} {p : Option Ck} {k : Ck} (h : frameAt l at_ p = .ok (k, nx)) : at_ < nx ∧ nx ≤ l.length := by
  unfold frameAt at h
  rcases uint_cases l at_ with ⟨z, a1, h1, -, h2, h3, h4, -⟩ | ⟨h1, -⟩
  · rw [h1] at h
    rcases uint_cases l a1 with ⟨s, a2, h5, -, h6, h7, h8, -⟩ | ⟨h5, -⟩
    · simp only [h5] at h
      split at h
      · cases h
      · split at h
        · cases h
        · split at h
          · cases h
          · simp only [Except.ok.injEq, Prod.mk.injEq] at h
            obtain ⟨-, rfl⟩ := h
            omega
    · simp only [h5] at h; cases h
  · rw [h1] at h; cases h
theorem frame_errs {l : List UInt8} {at_ : Nat} {p : Option Ck} {e : Int} (h : frameAt l at_ p = .error e) : e = 290 ∨ e = 291 ∨ e = 293 := by
  unfold frameAt at h
  split at h
  · cases h; simp
  · split at h
    · cases h; simp
    · split at h
      · cases h; simp
      · split at h
        · cases h; simp
        · split at h
          · cases h; simp
          · cases h
/-- One step. -/
theorem salv_step {l : List UInt8} {at_ nx n : Nat} {acc : List Ck} {k : Ck} (h1 : l[at_]? = some 1) (h2 : frameAt l (at_ + 1) acc.getLast? = .ok (k, nx)) : salvF l (n + 1) at_ acc = salvF l n nx (acc ++ [k]) := by
  rw [salvF, if_pos h1, h2]
/-- The end: no frame begins here, or a wrong one. -/
theorem salv_stop {l : List UInt8} {at_ n : Nat} {acc : List Ck} (h : l[at_]? ≠ some 1 ∨ ∃ e, frameAt l (at_ + 1) acc.getLast? = .error e) : salvF l n at_ acc = (acc, at_) := by
  cases n with
  | zero => rfl
  | succ n =>
    rw [salvF]
    split
    · rename_i h1
      rcases h with h | ⟨e, h⟩
      · exact absurd h1 h
      · rw [h]
    · rfl
theorem salvF_more (l : List UInt8) : ∀ (n m at_ : Nat) (acc : List Ck), l.length - at_ ≤ n → n ≤ m → salvF l m at_ acc = salvF l n at_ acc
  | 0, m, at_, acc, h, _ => by
    rw [salv_stop (.inl (by rw [List.getElem?_eq_none_iff.2 (by omega)]; simp)), salv_stop (.inl (by rw [List.getElem?_eq_none_iff.2 (by omega)]; simp))]
  | n + 1, 0, _, _, _, h => by omega
  | n + 1, m + 1, at_, acc, h, h' => by
    by_cases h1 : l[at_]? = some 1
    · cases hf : frameAt l (at_ + 1) acc.getLast? with
      | error e => rw [salv_stop (.inr ⟨e, hf⟩), salv_stop (.inr ⟨e, hf⟩)]
      | ok r =>
        obtain ⟨k, nx⟩ := r
        have := frame_next hf
        rw [salv_step h1 hf, salv_step h1 hf]
        exact salvF_more l n m nx _ (by omega) (by omega)
    · rw [salv_stop (.inl h1), salv_stop (.inl h1)]
theorem salv_start (l : List UInt8) : salv l = salvF l (l.length - 4) 4 [] := salvF_more l _ _ _ _ (Nat.le_refl _) (Nat.sub_le _ _)
/-- One step of the rest. -/
theorem salv_on {l : List UInt8} {at_ nx : Nat} {acc : List Ck} {k : Ck} (h1 : l[at_]? = some 1) (h2 : frameAt l (at_ + 1) acc.getLast? = .ok (k, nx)) : salvF l (l.length - at_) at_ acc = salvF l (l.length - nx) nx (acc ++ [k]) := by
  have hn := frame_next h2
  have hlt := (List.getElem?_eq_some_iff.1 h1).1
  obtain ⟨m, hm⟩ : ∃ m, l.length - at_ = m + 1 := ⟨l.length - at_ - 1, by omega⟩
  rw [hm, salv_step h1 h2, salvF_more l (l.length - nx) m nx _ (Nat.le_refl _) (by omega)]
end Go.Proofs.Ytncdcpaelecikaa
