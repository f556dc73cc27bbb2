/-
  Plain laws of caches: what each call answers.
-/
import Derived.Test.YtpiodpljiklfkaaFp
namespace Go.Proofs.Ytpiodpljiklfkaa

/-- A chunk of a cache. -/
structure En where
  s : Nat
  z : Int
  l : List UInt8
  p : Nat
def En.id (x : En) : Nat × Int := (x.s, x.z)
def idOf (l : List UInt8) : Nat × Int := (fp l, (l.length : Int))
/-- Where an ID stands. -/
def atF (k : Nat × Int) : List En → Option Nat
  | [] => none
  | x :: E => if x.id = k then some 0 else (atF k E).map (· + 1)
def useF (E : List En) (i : Nat) : List En := match E[i]? with | none => E | some x => E.eraseIdx i ++ [x]
def sizeF : List En → Nat
  | [] => 0
  | x :: E => x.l.length + sizeF E
def pinF : List En → Nat
  | [] => 0
  | x :: E => (if 0 < x.p then x.l.length else 0) + pinF E
/-- What stays and what goes, until so many bytes are left. -/
def evF (room : Nat) : List En → Nat → List En × List En
  | [], _ => ([], [])
  | x :: E, left => if left ≤ room then (x :: E, []) else if x.p = 0 then ((evF room E (left - x.l.length)).1, x :: (evF room E (left - x.l.length)).2) else (x :: (evF room E left).1, (evF room E left).2)
def putF (room : Nat) (E : List En) (k : Nat × Int) (l : List UInt8) : List En × List (Nat × Int) × Int :=
  match atF k E with
  | some i => (useF E i, [], 0)
  | none => if room < pinF E + l.length then (E, [], 382) else ((evF room E (sizeF E + l.length)).1 ++ [⟨k.1, k.2, l, 0⟩], (evF room E (sizeF E + l.length)).2.map En.id, 0)
def putC (room : Nat) (E : List En) (k : Nat × Int) (l : List UInt8) : List En × List (Nat × Int) × Int := if l.length = 0 ∨ idOf l ≠ k then (E, [], 381) else putF room E k l
def getC (E : List En) (k : Nat × Int) : List En × List UInt8 × Bool :=
  match atF k E with
  | none => (E, [], false)
  | some i => (useF E i, (E[i]?.map En.l).getD [], true)
def setP (E : List En) (i : Nat) (p : Nat) : List En := match E[i]? with | none => E | some x => E.set i { x with p := p }
def pinC (E : List En) (k : Nat × Int) : List En × Bool :=
  match atF k E with
  | none => (E, false)
  | some i => match E[i]? with | none => (E, false) | some x => if 1024 ≤ x.p then (E, false) else (setP E i (x.p + 1), true)
def unpC (E : List En) (k : Nat × Int) : List En × Bool :=
  match atF k E with
  | none => (E, false)
  | some i => match E[i]? with | none => (E, false) | some x => if x.p = 0 then (E, false) else (setP E i (x.p - 1), true)
def pinsC (E : List En) (k : Nat × Int) : Nat := match atF k E with | none => 0 | some i => (E[i]?.map En.p).getD 0
/-- What holds of the chunks at all times. -/
structure OkE (room : Nat) (E : List En) : Prop where
  right : ∀ x ∈ E, x.id = idOf x.l ∧ 0 < x.l.length ∧ x.p ≤ 1024
  apart : (E.map En.id).Nodup
  fits : sizeF E ≤ room

theorem atF_some {k : Nat × Int} : ∀ {E : List En} {i : Nat}, atF k E = some i → ∃ x, E[i]? = some x ∧ x.id = k ∧ ∀ j < i, ∀ y, E[j]? = some y → y.id ≠ k
  | [], i, h => by cases h
  | x :: E, i, h => by
    unfold atF at h
    by_cases hx : x.id = k
    · rw [if_pos hx] at h
      cases h
      exact ⟨x, rfl, hx, fun j hj => absurd hj (Nat.not_lt_zero _)⟩
    · rw [if_neg hx] at h
      obtain ⟨j, hj, rfl⟩ := Option.map_eq_some_iff.1 h
      obtain ⟨y, h1, h2, h3⟩ := atF_some hj
      refine ⟨y, by simpa using h1, h2, fun m hm z hz => ?_⟩
      cases m with
      | zero => cases hz; exact hx
      | succ m => exact h3 m (by omega) z (by simpa using hz)
theorem atF_none {k : Nat × Int} : ∀ {E : List En}, atF k E = none → ∀ x ∈ E, x.id ≠ k
  | [], _, x, hx => by cases hx
  | y :: E, h, x, hx => by
    unfold atF at h
    by_cases hy : y.id = k
    · rw [if_pos hy] at h; cases h
    · rw [if_neg hy, Option.map_eq_none_iff] at h
      rcases List.mem_cons.1 hx with rfl | hx
      · exact hy
      · exact atF_none h x hx
theorem atF_of {k : Nat × Int} : ∀ {E : List En} {i : Nat} {x : En}, E[i]? = some x → x.id = k → (∀ j < i, ∀ y, E[j]? = some y → y.id ≠ k) → atF k E = some i
  | [], i, x, h, _, _ => by simp at h
  | y :: E, 0, x, h, hk, _ => by
    cases h
    unfold atF
    rw [if_pos hk]
  | y :: E, i + 1, x, h, hk, hj => by
    unfold atF
    rw [if_neg (hj 0 (by omega) y rfl), atF_of (by simpa using h) hk (fun j h1 z hz => hj (j + 1) (by omega) z (by simpa using hz))]
    rfl
theorem atF_not {k : Nat × Int} : ∀ {E : List En}, (∀ x ∈ E, x.id ≠ k) → atF k E = none
  | [], _ => rfl
  | y :: E, h => by
    unfold atF
    rw [if_neg (h y (List.mem_cons_self ..)), atF_not (fun x hx => h x (List.mem_cons_of_mem _ hx))]
    rfl
theorem sizeF_app (A B : List En) : sizeF (A ++ B) = sizeF A + sizeF B := by
  induction A with
  | nil => simp [sizeF]
  | cons x A ih => simp only [List.cons_append, sizeF, ih]; omega
theorem pinF_app (A B : List En) : pinF (A ++ B) = pinF A + pinF B := by
  induction A with
  | nil => simp [pinF]
  | cons x A ih => simp only [List.cons_append, pinF, ih]; omega
theorem pinF_le (E : List En) : pinF E ≤ sizeF E := by
  induction E with
  | nil => exact Nat.le_refl _
  | cons x E ih => simp only [pinF, sizeF]; split <;> omega
theorem cut_at {E : List En} {i : Nat} {x : En} (h : E[i]? = some x) : ∃ A B, E = A ++ x :: B ∧ A.length = i ∧ E.eraseIdx i = A ++ B := by
  have hi := (List.getElem?_eq_some_iff.1 h).1
  have hx := (List.getElem?_eq_some_iff.1 h).2
  refine ⟨E.take i, E.drop (i + 1), ?_, by rw [List.length_take]; omega, List.eraseIdx_eq_take_drop_succ ..⟩
  rw [← hx, List.getElem_cons_drop, List.take_append_drop]
theorem useF_cut {A B : List En} {x : En} : useF (A ++ x :: B) A.length = A ++ B ++ [x] := by
  unfold useF
  rw [List.getElem?_append_right (Nat.le_refl _), Nat.sub_self]
  simp only [List.getElem?_cons_zero]
  rw [List.eraseIdx_append_of_length_le (Nat.le_refl _), Nat.sub_self]
  rfl
theorem OkE.nil (room : Nat) : OkE room [] := ⟨(fun x hx => by cases hx), List.nodup_nil, Nat.zero_le _⟩
theorem OkE.perm {room : Nat} {E E' : List En} (h : OkE room E) (hp : E'.Perm E) (hs : sizeF E' = sizeF E) : OkE room E' :=
  ⟨fun x hx => h.right x (hp.mem_iff.1 hx), (hp.map En.id).nodup_iff.2 h.apart, by rw [hs]; exact h.fits⟩
theorem use_perm (E : List En) (i : Nat) : (useF E i).Perm E ∧ sizeF (useF E i) = sizeF E := by
  unfold useF
  cases h : E[i]? with
  | none => exact ⟨List.Perm.refl _, rfl⟩
  | some x =>
    obtain ⟨A, B, rfl, rfl, he⟩ := cut_at h
    simp only [he]
    refine ⟨?_, ?_⟩
    · rw [List.append_assoc]
      exact List.Perm.append_left A (List.perm_append_singleton x B)
    · rw [sizeF_app, sizeF_app, sizeF_app]
      simp only [sizeF]
      omega
theorem OkE.use {room : Nat} {E : List En} (h : OkE room E) (i : Nat) : OkE room (useF E i) := h.perm (use_perm E i).1 (use_perm E i).2

/-! ### What goes -/
theorem evF_sub (room : Nat) : ∀ (E : List En) (left : Nat), (evF room E left).1.Sublist E ∧ sizeF E = sizeF (evF room E left).1 + sizeF (evF room E left).2 ∧ (∀ x ∈ (evF room E left).2, x.p = 0 ∧ x ∈ E)
  | [], left => ⟨List.Sublist.refl _, rfl, fun x hx => by cases hx⟩
  | x :: E, left => by
    unfold evF
    by_cases h1 : left ≤ room
    · rw [if_pos h1]; exact ⟨List.Sublist.refl _, rfl, fun x hx => by cases hx⟩
    · rw [if_neg h1]
      by_cases h2 : x.p = 0
      · rw [if_pos h2]
        obtain ⟨g1, g2, g3⟩ := evF_sub room E (left - x.l.length)
        refine ⟨g1.cons _, by simp only [sizeF]; omega, fun y hy => ?_⟩
        rcases List.mem_cons.1 hy with rfl | hy
        · exact ⟨h2, List.mem_cons_self ..⟩
        · exact ⟨(g3 y hy).1, List.mem_cons_of_mem _ (g3 y hy).2⟩
      · rw [if_neg h2]
        obtain ⟨g1, g2, g3⟩ := evF_sub room E left
        exact ⟨g1.cons_cons _, by simp only [sizeF]; omega, fun y hy => ⟨(g3 y hy).1, List.mem_cons_of_mem _ (g3 y hy).2⟩⟩
/-- It fits behind them, or all that is left is pinned. -/
theorem evF_fits (room : Nat) : ∀ (E : List En) (r : Nat), pinF E ≤ sizeF (evF room E (sizeF E + r)).1 ∧ (room < sizeF (evF room E (sizeF E + r)).1 + r → sizeF (evF room E (sizeF E + r)).1 = pinF E)
  | [], r => ⟨Nat.le_refl _, fun _ => rfl⟩
  | x :: E, r => by
    unfold evF
    by_cases h1 : sizeF (x :: E) + r ≤ room
    · rw [if_pos h1]
      exact ⟨pinF_le _, fun h => by simp only at h; omega⟩
    · rw [if_neg h1]
      by_cases h2 : x.p = 0
      · rw [if_pos h2]
        have e : sizeF (x :: E) + r - x.l.length = sizeF E + r := by simp only [sizeF]; omega
        rw [e]
        have := evF_fits room E r
        simp only [pinF]
        rw [if_neg (by omega)]
        simpa using this
      · rw [if_neg h2]
        have e : sizeF (x :: E) + r = sizeF E + (x.l.length + r) := by simp only [sizeF]; omega
        rw [e]
        have := evF_fits room E (x.l.length + r)
        simp only [pinF, sizeF]
        rw [if_pos (by omega)]
        exact ⟨by omega, fun h => by have := this.2 (by omega); omega⟩
theorem evF_room {room : Nat} {E : List En} {n : Nat} (h : ¬ room < pinF E + n) : sizeF (evF room E (sizeF E + n)).1 + n ≤ room := by
  have h1 := evF_fits room E n
  by_cases h2 : room < sizeF (evF room E (sizeF E + n)).1 + n
  · have := h1.2 h2
    omega
  · omega
theorem evF_full {room : Nat} {E : List En} {n : Nat} (h : room < pinF E + n) : room < sizeF (evF room E (sizeF E + n)).1 + n := by
  have h1 := evF_fits room E n
  omega
theorem putF_ok {room : Nat} {E : List En} {l : List UInt8} (h : OkE room E) (hl : 0 < l.length) : OkE room (putF room E (idOf l) l).1 := by
  unfold putF
  cases hk : atF (idOf l) E with
  | some i => exact h.use i
  | none =>
    simp only
    by_cases hr : room < pinF E + l.length
    · rw [if_pos hr]; exact h
    · rw [if_neg hr]
      obtain ⟨g1, g2, g3⟩ := evF_sub room E (sizeF E + l.length)
      refine ⟨fun x hx => ?_, ?_, ?_⟩
      · rcases List.mem_append.1 hx with hx | hx
        · exact h.right x (g1.subset hx)
        · obtain rfl : x = ⟨(idOf l).1, (idOf l).2, l, 0⟩ := by simpa using hx
          exact ⟨rfl, hl, Nat.zero_le _⟩
      · rw [List.map_append, List.nodup_append]
        refine ⟨(g1.map En.id).nodup h.apart, by simp, fun a ha b hb => ?_⟩
        obtain ⟨x, hx, rfl⟩ := List.mem_map.1 ha
        obtain rfl : b = idOf l := by simpa [En.id] using hb
        exact atF_none hk x (g1.subset hx)
      · rw [sizeF_app]
        simp only [sizeF]
        have := evF_room hr
        omega
theorem putC_ok {room : Nat} {E : List En} {k : Nat × Int} {l : List UInt8} (h : OkE room E) : OkE room (putC room E k l).1 := by
  unfold putC
  by_cases hl : l.length = 0 ∨ idOf l ≠ k
  · rw [if_pos hl]; exact h
  · rw [if_neg hl]
    obtain rfl : idOf l = k := by
      by_cases e : idOf l = k
      · exact e
      · exact absurd (.inr e) hl
    exact putF_ok h (by omega)
theorem getC_ok {room : Nat} {E : List En} {k : Nat × Int} (h : OkE room E) : OkE room (getC E k).1 := by
  unfold getC
  cases atF k E with
  | none => exact h
  | some i => exact h.use i
theorem setP_ok {room : Nat} {E : List En} {i p : Nat} (h : OkE room E) (hp : p ≤ 1024) : OkE room (setP E i p) := by
  unfold setP
  cases hx : E[i]? with
  | none => exact h
  | some x =>
    obtain ⟨A, B, rfl, rfl, -⟩ := cut_at hx
    simp only [List.set_append_right _ _ (Nat.le_refl _), Nat.sub_self, List.set_cons_zero]
    have h1 := h.right
    have h2 := h.apart
    have h3 := h.fits
    refine ⟨fun y hy => ?_, ?_, ?_⟩
    · rcases List.mem_append.1 hy with hy | hy
      · exact h1 y (List.mem_append_left _ hy)
      · rcases List.mem_cons.1 hy with rfl | hy
        · obtain ⟨q1, q2, q3⟩ := h1 x (by simp)
          exact ⟨q1, q2, hp⟩
        · exact h1 y (by simp [hy])
    · rw [List.map_append, List.map_cons] at h2 ⊢
      exact h2
    · rw [sizeF_app] at h3 ⊢
      simpa [sizeF] using h3
theorem pinC_ok {room : Nat} {E : List En} {k : Nat × Int} (h : OkE room E) : OkE room (pinC E k).1 := by
  unfold pinC
  cases atF k E with
  | none => exact h
  | some i =>
    simp only
    cases E[i]? with
    | none => exact h
    | some x =>
      simp only
      by_cases hp : 1024 ≤ x.p
      · rw [if_pos hp]; exact h
      · rw [if_neg hp]; exact setP_ok h (by omega)
theorem unpC_ok {room : Nat} {E : List En} {k : Nat × Int} (h : OkE room E) : OkE room (unpC E k).1 := by
  unfold unpC
  cases atF k E with
  | none => exact h
  | some i =>
    simp only
    cases hx : E[i]? with
    | none => exact h
    | some x =>
      have := (h.right x (List.mem_of_getElem? hx)).2.2
      simp only
      by_cases hp : x.p = 0
      · rw [if_pos hp]; exact h
      · rw [if_neg hp]; exact setP_ok h (by omega)
end Go.Proofs.Ytpiodpljiklfkaa
