/-
  Plain laws of rings: doubly linked lists through one end.
-/
import Derived.Test.YtpiodpljiklfkaaBase
namespace Go.Proofs.Ytpiodpljiklfkaa

/-- A node: its neighbours' blocks, an ID, bytes, pins. -/
structure Nd where
  prev : Nat
  next : Nat
  s : Nat
  z : Int
  a : Option Addr
  n : Nat
  c : Nat
  l : List UInt8
  pins : Nat
def setNext (N : Nat → Nd) (a b : Nat) : Nat → Nd := fun k => if k = a then { N a with next := b } else N k
def setPrev (N : Nat → Nd) (a b : Nat) : Nat → Nd := fun k => if k = a then { N a with prev := b } else N k
/-- From x through L to y, and back. -/
def Seg (N : Nat → Nd) : Nat → List Nat → Nat → Prop
  | x, [], y => (N x).next = y ∧ (N y).prev = x
  | x, p :: L, y => (N x).next = p ∧ (N p).prev = x ∧ Seg N p L y
def Ring (N : Nat → Nd) (h : Nat) (L : List Nat) : Prop := Seg N h L h

theorem Seg.append {N : Nat → Nd} {p y : Nat} {B : List Nat} : ∀ {A : List Nat} {x : Nat}, Seg N x (A ++ p :: B) y ↔ Seg N x A p ∧ Seg N p B y
  | [], x => by simp only [List.nil_append, Seg]; exact ⟨fun ⟨h1, h2, h3⟩ => ⟨⟨h1, h2⟩, h3⟩, fun ⟨⟨h1, h2⟩, h3⟩ => ⟨h1, h2, h3⟩⟩
  | q :: A, x => by
    simp only [List.cons_append, Seg, Seg.append (A := A)]
    exact ⟨fun ⟨h1, h2, h3, h4⟩ => ⟨⟨h1, h2, h3⟩, h4⟩, fun ⟨⟨h1, h2, h3⟩, h4⟩ => ⟨h1, h2, h3, h4⟩⟩
theorem Seg.congr {N N' : Nat → Nd} {y : Nat} : ∀ {L : List Nat} {x : Nat}, Seg N x L y → (∀ k ∈ x :: L, (N' k).next = (N k).next) → (∀ k ∈ L ++ [y], (N' k).prev = (N k).prev) → Seg N' x L y
  | [], x, h, h1, h2 => ⟨by rw [h1 x (by simp)]; exact h.1, by rw [h2 y (by simp)]; exact h.2⟩
  | p :: L, x, h, h1, h2 => ⟨by rw [h1 x (by simp)]; exact h.1, by rw [h2 p (by simp)]; exact h.2.1, Seg.congr h.2.2 (fun k hk => h1 k (List.mem_cons_of_mem _ hk)) (fun k hk => h2 k (List.mem_cons_of_mem _ hk))⟩
theorem Seg.head {N : Nat → Nd} {x y : Nat} : ∀ {L : List Nat}, Seg N x L y → (N x).next = (L ++ [y]).headD 0
  | [], h => h.1
  | _ :: _, h => h.1
theorem Seg.last {N : Nat → Nd} {y : Nat} : ∀ {L : List Nat} {x : Nat}, Seg N x L y → (N y).prev = (x :: L).getLastD 0
  | [], _, h => h.2
  | p :: L, x, h => by rw [Seg.last h.2.2]; simp
theorem lastD_snoc (h : Nat) (A : List Nat) (a : Nat) : (h :: (A ++ [a])).getLastD 0 = a := by
  rw [← List.cons_append]; exact List.getLastD_concat ..
theorem lastD_mem (h : Nat) (A : List Nat) : (h :: A).getLastD 0 ∈ h :: A := by
  rcases List.eq_nil_or_concat A with rfl | ⟨A', a', rfl⟩
  · simp
  · rw [List.concat_eq_append, lastD_snoc]; simp
/-- The node that stands at p is taken out. -/
theorem Ring.unlink {N : Nat → Nd} {h p : Nat} {A B : List Nat} (hR : Ring N h (A ++ p :: B)) (hn : (h :: (A ++ p :: B)).Nodup) :
    Ring (setPrev (setNext N (N p).prev (N p).next) (N p).next (N p).prev) h (A ++ B) := by
  obtain ⟨h1, h2⟩ := Seg.append.1 hR
  have ha := h1.last
  have hb := h2.head
  obtain ⟨a, ea⟩ : ∃ a, a = (N p).prev := ⟨_, rfl⟩
  obtain ⟨b, eb⟩ : ∃ b, b = (N p).next := ⟨_, rfl⟩
  rw [← ea] at ha ⊢
  rw [← eb] at hb ⊢
  have hnx : ∀ k, (setPrev (setNext N a b) b a k).next = if k = a then b else (N k).next := fun k => by
    unfold setPrev setNext
    by_cases h1 : k = b
    · subst h1
      by_cases h2 : k = a
      · subst h2; simp
      · simp [h2]
    · by_cases h2 : k = a
      · subst h2; simp [h1]
      · simp [h1, h2]
  have hpv : ∀ k, (setPrev (setNext N a b) b a k).prev = if k = b then a else (N k).prev := fun k => by
    unfold setPrev setNext
    by_cases h1 : k = b
    · subst h1; simp
    · by_cases h2 : k = a
      · subst h2; simp [h1]
      · simp [h1, h2]
  generalize setPrev (setNext N a b) b a = N' at hnx hpv ⊢
  have hA : a ∈ h :: A := by rw [ha]; exact lastD_mem h A
  have hn' := hn
  rw [List.nodup_cons, List.nodup_append, List.nodup_cons] at hn'
  obtain ⟨nh, nA, ⟨npB, nB⟩, nAB⟩ := hn'
  have hhp : h ≠ p := fun e => nh (by simp [e])
  have hhA : h ∉ A := fun e => nh (by simp [e])
  have hhB : h ∉ B := fun e => nh (by simp [e])
  have hAB : ∀ k ∈ A, k ∉ B := fun k hk hk' => nAB k hk k (List.mem_cons_of_mem _ hk') rfl
  unfold Ring
  rcases B with _ | ⟨b', B'⟩
  · -- p was the last one
    obtain rfl : b = h := by simpa using hb
    rw [List.append_nil]
    rcases List.eq_nil_or_concat A with rfl | ⟨A', a', rfl⟩
    · obtain rfl : a = b := by simpa using ha
      exact ⟨by rw [hnx, if_pos rfl], by rw [hpv, if_pos rfl]⟩
    · rw [List.concat_eq_append] at *
      obtain rfl : a = a' := by rw [ha]; exact lastD_snoc _ _ _
      obtain ⟨h3, h4⟩ := Seg.append.1 h1
      refine Seg.append.2 ⟨h3.congr (fun k hk => ?_) (fun k hk => ?_), by rw [hnx, if_pos rfl], by rw [hpv, if_pos rfl]⟩
      · rw [hnx, if_neg]
        rintro rfl
        rcases List.mem_cons.1 hk with rfl | hk
        · exact hhA (by simp)
        · rw [List.nodup_append] at nA; exact nA.2.2 k hk k (by simp) rfl
      · rw [hpv, if_neg]
        rintro rfl
        exact hhA hk
  · obtain rfl : b = b' := by simpa using hb
    have h5 : Seg N b B' h := h2.2.2
    have hbh : b ≠ h := fun e => hhB (by simp [e])
    have hbB' : b ∉ B' := (List.nodup_cons.1 nB).1
    have h6 : Seg N' b B' h := h5.congr (fun k hk => by
      rw [hnx, if_neg]
      rintro rfl
      rcases List.mem_cons.1 hA with e | e
      · exact hhB (by rw [← e]; exact hk)
      · exact hAB k e hk) (fun k hk => by
      rw [hpv, if_neg]
      rintro rfl
      rcases List.mem_append.1 hk with e | e
      · exact hbB' e
      · exact hbh (by simpa using e))
    rcases List.eq_nil_or_concat A with rfl | ⟨A', a', rfl⟩
    · obtain rfl : a = h := by simpa using ha
      exact ⟨by rw [hnx, if_pos rfl], by rw [hpv, if_pos rfl], h6⟩
    · rw [List.concat_eq_append] at *
      obtain rfl : a = a' := by rw [ha]; exact lastD_snoc _ _ _
      obtain ⟨h3, h4⟩ := Seg.append.1 h1
      rw [List.append_assoc]
      refine Seg.append.2 ⟨h3.congr (fun k hk => ?_) (fun k hk => ?_), by rw [hnx, if_pos rfl], by rw [hpv, if_pos rfl], h6⟩
      · rw [hnx, if_neg]
        rintro rfl
        rcases List.mem_cons.1 hk with rfl | hk
        · exact hhA (by simp)
        · rw [List.nodup_append] at nA; exact nA.2.2 k hk k (by simp) rfl
      · rw [hpv, if_neg]
        rintro rfl
        exact hAB k hk (by simp)
/-- A node is put in as the last one. -/
theorem Ring.link {N N' : Nat → Nd} {h p : Nat} {L : List Nat} (hR : Ring N h L) (hp : p ∉ h :: L) (hn : (h :: L).Nodup)
    (h1 : ∀ k, (N' k).next = if k = p then h else if k = (N h).prev then p else (N k).next) (h2 : ∀ k, (N' k).prev = if k = p then (N h).prev else if k = h then p else (N k).prev) : Ring N' h (L ++ [p]) := by
  have ha := hR.last
  obtain ⟨a, ea⟩ : ∃ a, a = (N h).prev := ⟨_, rfl⟩
  rw [← ea] at ha h1 h2
  have hph : p ≠ h := fun e => hp (by simp [e])
  have hpL : p ∉ L := fun e => hp (by simp [e])
  have hhL := (List.nodup_cons.1 hn).1
  unfold Ring at *
  rcases List.eq_nil_or_concat L with rfl | ⟨A, a', rfl⟩
  · obtain rfl : a = h := by simpa using ha
    exact ⟨by rw [h1, if_neg (Ne.symm hph), if_pos rfl], by rw [h2, if_pos rfl], by rw [h1, if_pos rfl], by rw [h2, if_neg (Ne.symm hph), if_pos rfl]⟩
  · rw [List.concat_eq_append] at *
    obtain rfl : a = a' := by rw [ha]; exact lastD_snoc _ _ _
    obtain ⟨h3, h4⟩ := Seg.append.1 hR
    have nA : (A ++ [a]).Nodup := (List.nodup_cons.1 hn).2
    have hap : a ≠ p := fun e => hpL (by simp [e])
    rw [List.append_assoc]
    refine Seg.append.2 ⟨h3.congr (fun k hk => ?_) (fun k hk => ?_), by rw [h1, if_neg hap, if_pos rfl], by rw [h2, if_pos rfl], by rw [h1, if_pos rfl], by rw [h2, if_neg (Ne.symm hph), if_pos rfl]⟩
    · rw [h1, if_neg, if_neg]
      · rintro rfl
        rcases List.mem_cons.1 hk with rfl | hk
        · exact hhL (by simp)
        · rw [List.nodup_append] at nA; exact nA.2.2 k hk k (by simp) rfl
      · rintro rfl
        rcases List.mem_cons.1 hk with rfl | hk
        · exact hph rfl
        · exact hpL (by simp [hk])
    · rw [h2, if_neg, if_neg]
      · rintro rfl; exact hhL hk
      · rintro rfl; exact hpL hk
theorem Ring.nil {N : Nat → Nd} {h : Nat} (h1 : (N h).next = h) (h2 : (N h).prev = h) : Ring N h [] := ⟨h1, h2⟩
/-- Behind A stands p: what comes behind it. -/
theorem Ring.at_ {N : Nat → Nd} {h p : Nat} {A B : List Nat} (hR : Ring N h (A ++ p :: B)) : (N p).next = (B ++ [h]).headD 0 := (Seg.append.1 hR).2.head
end Go.Proofs.Ytpiodpljiklfkaa
