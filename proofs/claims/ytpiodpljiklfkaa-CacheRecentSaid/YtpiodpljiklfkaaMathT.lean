/-
  Plain laws of inclusion: two caches without pins and with chunks of one size.
-/
import Derived.Test.YtpiodpljiklfkaaMathS
namespace Go.Proofs.Ytpiodpljiklfkaa

/-- The IDs of a cache with room for n chunks. -/
def putL (n : Nat) (K : List (Nat × Int)) (k : Nat × Int) : List (Nat × Int) := if k ∈ K then K.erase k ++ [k] else if K.length = n then K.tail ++ [k] else K ++ [k]
def getL (K : List (Nat × Int)) (k : Nat × Int) : List (Nat × Int) := if k ∈ K then K.erase k ++ [k] else K
structure Inc (n m : Nat) (K M : List (Nat × Int)) : Prop where
  sub : K.Sublist M
  few : K.length ≤ n
  many : M.length ≤ m
  full : K.length = n ∨ K = M

theorem erase_end {K : List (Nat × Int)} {k : Nat × Int} (h : k ∈ K) : (K.erase k ++ [k]).length = K.length := by
  rw [List.length_append, List.length_erase_of_mem h]
  have := List.length_pos_of_mem h
  simp
  omega
theorem Inc.get {n m : Nat} {K M : List (Nat × Int)} (h : Inc n m K M) (k : Nat × Int) : Inc n m (getL K k) (getL M k) := by
  unfold getL
  by_cases hK : k ∈ K
  · have hM : k ∈ M := h.sub.subset hK
    rw [if_pos hK, if_pos hM]
    refine ⟨(h.sub.erase k).append (List.Sublist.refl _), by rw [erase_end hK]; exact h.few, by rw [erase_end hM]; exact h.many, ?_⟩
    rcases h.full with h1 | h1
    · exact .inl (by rw [erase_end hK]; exact h1)
    · exact .inr (by rw [h1])
  · rw [if_neg hK]
    by_cases hM : k ∈ M
    · rw [if_pos hM]
      have hf : K.length = n := by
        rcases h.full with h1 | h1
        · exact h1
        · exact absurd (h1 ▸ hM) hK
      refine ⟨?_, h.few, by rw [erase_end hM]; exact h.many, .inl hf⟩
      have h2 := h.sub.erase k
      rw [List.erase_of_not_mem hK] at h2
      exact h2.trans (List.sublist_append_left _ _)
    · rw [if_neg hM]; exact h
theorem putL_len {n : Nat} {K : List (Nat × Int)} {k : Nat × Int} (hn : 1 ≤ n) (h : K.length ≤ n) : (putL n K k).length ≤ n := by
  unfold putL
  by_cases hK : k ∈ K
  · rw [if_pos hK, erase_end hK]; exact h
  · rw [if_neg hK]
    split
    · simp; omega
    · simp; omega
theorem Inc.put {n m : Nat} {K M : List (Nat × Int)} (h : Inc n m K M) (k : Nat × Int) (hn : 1 ≤ n) (hnm : n ≤ m) : Inc n m (putL n K k) (putL m M k) := by
  refine ⟨?_, putL_len hn h.few, putL_len (by omega) h.many, ?_⟩
  · unfold putL
    by_cases hK : k ∈ K
    · have hM : k ∈ M := h.sub.subset hK
      rw [if_pos hK, if_pos hM]
      exact (h.sub.erase k).append (List.Sublist.refl _)
    · rw [if_neg hK]
      by_cases hM : k ∈ M
      · have hf : K.length = n := by
          rcases h.full with h1 | h1
          · exact h1
          · exact absurd (h1 ▸ hM) hK
        rw [if_pos hM, if_pos hf]
        have h2 := ((List.tail_sublist K).trans h.sub).erase k
        rw [List.erase_of_not_mem fun hk => hK (List.mem_of_mem_tail hk)] at h2
        exact h2.append (List.Sublist.refl _)
      · rw [if_neg hM]
        by_cases hm : M.length = m
        · have hf : K.length = n := by
            rcases h.full with h1 | h1
            · exact h1
            · have := h.few; rw [h1] at this ⊢; omega
          rw [if_pos hm, if_pos hf]
          exact h.sub.tail.append (List.Sublist.refl _)
        · rw [if_neg hm]
          by_cases hf : K.length = n
          · rw [if_pos hf]
            exact ((List.tail_sublist K).trans h.sub).append (List.Sublist.refl _)
          · rw [if_neg hf]
            exact h.sub.append (List.Sublist.refl _)
  · by_cases hf : K.length = n
    · refine .inl ?_
      unfold putL
      by_cases hK : k ∈ K
      · rw [if_pos hK, erase_end hK]; exact hf
      · rw [if_neg hK, if_pos hf]; simp; omega
    · have he : K = M := by
        rcases h.full with h1 | h1
        · exact absurd h1 hf
        · exact h1
      subst he
      refine .inr ?_
      unfold putL
      by_cases hK : k ∈ K
      · rw [if_pos hK, if_pos hK]
      · have := h.few
        rw [if_neg hK, if_neg hK, if_neg hf, if_neg (by omega)]

/-- Chunks of one size, none of them pinned. -/
def Uni (s : Nat) (E : List En) : Prop := ∀ x ∈ E, x.l.length = s ∧ x.p = 0
theorem Uni.size {s : Nat} {E : List En} (h : Uni s E) : sizeF E = E.length * s := by
  induction E with
  | nil => simp [sizeF]
  | cons x E ih =>
    simp only [sizeF, List.length_cons]
    rw [(h x (List.mem_cons_self ..)).1, ih fun y hy => h y (List.mem_cons_of_mem _ hy), Nat.add_mul]
    omega
theorem Uni.pin {s : Nat} {E : List En} (h : Uni s E) : pinF E = 0 := by
  induction E with
  | nil => rfl
  | cons x E ih =>
    simp only [pinF]
    rw [(h x (List.mem_cons_self ..)).2, ih fun y hy => h y (List.mem_cons_of_mem _ hy)]
    rfl
theorem mem_ids {E : List En} {k : Nat × Int} : k ∈ E.map En.id ↔ (atF k E).isSome = true := by
  constructor
  · intro h
    cases ha : atF k E with
    | some i => rfl
    | none =>
      obtain ⟨x, hx, he⟩ := List.mem_map.1 h
      exact absurd he (atF_none ha x hx)
  · intro h
    obtain ⟨i, hi⟩ := Option.isSome_iff_exists.1 h
    obtain ⟨x, hx, he, -⟩ := atF_some hi
    exact List.mem_map.2 ⟨x, List.mem_of_getElem? hx, he⟩
theorem ids_use {E : List En} {k : Nat × Int} {i : Nat} (h : atF k E = some i) : (useF E i).map En.id = (E.map En.id).erase k ++ [k] := by
  obtain ⟨x, hx, he, hb⟩ := atF_some h
  obtain ⟨A, B, rfl, rfl, -⟩ := cut_at hx
  have hn : k ∉ A.map En.id := fun hk => by
    obtain ⟨y, hy, hye⟩ := List.mem_map.1 hk
    obtain ⟨j, hj⟩ := List.getElem?_of_mem hy
    exact hb j (List.getElem?_eq_some_iff.1 hj).1 y (by rw [List.getElem?_append_left (List.getElem?_eq_some_iff.1 hj).1]; exact hj) hye
  rw [useF_cut, List.map_append, List.map_append, List.map_append, List.erase_append_right _ hn, List.map_cons, List.map_cons, he, List.erase_cons_head, List.map_nil]
theorem Uni.use {s : Nat} {E : List En} (h : Uni s E) (i : Nat) : Uni s (useF E i) := fun x hx => h x ((use_perm E i).1.mem_iff.1 hx)
theorem Uni.get {s : Nat} {E : List En} (h : Uni s E) (k : Nat × Int) : Uni s (getC E k).1 ∧ (getC E k).1.map En.id = getL (E.map En.id) k := by
  unfold getC getL
  cases ha : atF k E with
  | none =>
    rw [if_neg (fun hk => by rw [mem_ids, ha] at hk; cases hk)]
    exact ⟨h, rfl⟩
  | some i =>
    rw [if_pos (mem_ids.2 (by rw [ha]; rfl))]
    exact ⟨h.use i, ids_use ha⟩
theorem Uni.put {s n : Nat} {E : List En} {k : Nat × Int} {l : List UInt8} (h : Uni s E) (hs : 1 ≤ s) (hn : 1 ≤ n) (hE : E.length ≤ n) (hl : l.length = s) (hk : idOf l = k) :
    ∃ E' gone, putC (n * s) E k l = (E', gone, 0) ∧ Uni s E' ∧ E'.map En.id = putL n (E.map En.id) k := by
  unfold putC
  rw [if_neg (by rintro (h1 | h1); omega; exact h1 hk)]
  unfold putF putL
  cases ha : atF k E with
  | some i =>
    rw [if_pos (mem_ids.2 (by rw [ha]; rfl))]
    exact ⟨_, _, rfl, h.use i, ids_use ha⟩
  | none =>
    have hns : s ≤ n * s := Nat.le_mul_of_pos_left s hn
    have hno : k ∉ E.map En.id := fun hk => by rw [mem_ids, ha] at hk; cases hk
    simp only
    rw [if_neg hno, h.pin, hl, if_neg (by omega), List.length_map, h.size]
    have hnew : Uni s [⟨k.1, k.2, l, 0⟩] := fun x hx => by
      rw [List.mem_singleton] at hx
      subst hx
      exact ⟨hl, rfl⟩
    by_cases hf : E.length = n
    · rw [if_pos hf]
      cases E with
      | nil => simp at hf; omega
      | cons x E =>
        have hx := h x (List.mem_cons_self ..)
        have hb : ¬ (E.length + 1) * s + s ≤ n * s := by simp at hf; rw [hf]; omega
        have hr : (E.length + 1) * s + s - x.l.length ≤ n * s := by rw [hx.1]; simp at hf; rw [hf]; omega
        have he : ∀ L left, left ≤ n * s → evF (n * s) L left = (L, []) := fun L left hle => by
          cases L with
          | nil => rfl
          | cons y L => unfold evF; rw [if_pos hle]
        refine ⟨E ++ [⟨k.1, k.2, l, 0⟩], [x.id], ?_, ?_, ?_⟩
        · simp only [List.length_cons, evF]
          rw [if_neg hb, if_pos hx.2, he _ _ hr]
          rfl
        · intro y hy
          rcases List.mem_append.1 hy with hy | hy
          · exact h y (List.mem_cons_of_mem _ hy)
          · exact hnew y hy
        · simp [En.id]
    · rw [if_neg hf]
      have hb : E.length * s + s ≤ n * s := by
        have h1 : E.length + 1 ≤ n := by omega
        have h2 := Nat.mul_le_mul_right s h1
        rw [Nat.add_mul] at h2
        omega
      have he : evF (n * s) E (E.length * s + s) = (E, []) := by
        cases E with
        | nil => rfl
        | cons y L => unfold evF; rw [if_pos hb]
      rw [he]
      refine ⟨_, _, rfl, ?_, by simp [En.id]⟩
      intro y hy
      rcases List.mem_append.1 hy with hy | hy
      · exact h y hy
      · exact hnew y hy
end Go.Proofs.Ytpiodpljiklfkaa
