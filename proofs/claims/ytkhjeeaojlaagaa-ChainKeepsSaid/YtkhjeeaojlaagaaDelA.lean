/-
  Lists of ops in memory; what an op is; Check, the program's and the reference's.
-/
import Derived.Test.YtkhjeeaojlaagaaGen
import Derived.Test.YtkhjeeaojlaagaaMath1
namespace Go.Proofs.Ytkhjeeaojlaagaa
open Go.RowKit

/-- An op in memory. -/
structure Od where
  f : Int
  z : Int
  a : Option Addr
  n : Nat
  c : Nat
  l : List UInt8
def Od.cells (k : Od) : List Value := [.int .i64 k.f, .int .i64 k.z, .slice k.a k.n k.c]
def Od.d (k : Od) : Dp := ⟨k.f, k.z, k.l⟩
def i64B (x : Int) : Prop := -9223372036854775808 ≤ x ∧ x ≤ 9223372036854775807
def Od.In (w : World) (k : Od) : Prop := Bytes w k.a k.n k.c k.l ∧ k.n ≤ 140737488355328 ∧ i64B k.f ∧ i64B k.z
def Ops (w : World) (a : Option Addr) (n c : Nat) (L : List Od) : Prop := L.length = n ∧ Row w a n c 3 (L.flatMap Od.cells) ∧ ∀ k ∈ L, k.In w
theorem Od.In.ext {w w' : World} {k : Od} (h : k.In w) (hx : Ext w w') : k.In w' := ⟨h.1.ext hx, h.2⟩
theorem Ops.ext {w w' : World} {a : Option Addr} {n c : Nat} {L : List Od} (h : Ops w a n c L) (hx : Ext w w') : Ops w' a n c L :=
  ⟨h.1, h.2.1.ext hx, fun k hk => (h.2.2 k hk).ext hx⟩
theorem od_get {L : List Od} {i : Nat} {k : Od} (h : L[i]? = some k) : ∀ j, j < 3 → (L.flatMap Od.cells)[i * 3 + j]? = k.cells[j]? := by
  induction L generalizing i with
  | nil => cases h
  | cons x L ih =>
    intro j hj
    rw [List.flatMap_cons]
    cases i with
    | zero =>
      cases h
      rw [Nat.zero_mul, Nat.zero_add, List.getElem?_append_left (by simp [Od.cells]; omega)]
    | succ i =>
      rw [List.getElem?_append_right (by simp [Od.cells]; omega), ← ih (i := i) (by simpa using h) j hj]
      congr 1
      simp [Od.cells]
      omega
theorem od_range {w : World} {b o i : Nat} {L : List Od} {k : Od} (hk : L[i]? = some k) (hc : ∀ j, j < 3 → w.cell? ⟨b, o + j, none⟩ = (L.flatMap Od.cells)[i * 3 + j]?) :
    w.rangeAt b o k.cells := fun j v hj => by
  have hlt : j < 3 := (List.getElem?_eq_some_iff.1 hj).1
  exact (hc j hlt).trans ((od_get hk j hlt).trans hj)
theorem Try.elO : Elem Try.prog 46 83 3 40 (.agg #[.int .i64 0, .int .i64 0, .slice none 0 0]) := ⟨Try.underlying46, by kernel_rfl, rfl, by decide⟩
theorem od_len (L : List Od) : (L.flatMap Od.cells).length = L.length * 3 := by
  induction L with
  | nil => rfl
  | cons k L ih => rw [List.flatMap_cons, List.length_append, ih, List.length_cons, Nat.add_mul, Nat.one_mul]; simp [Od.cells]; omega
theorem od_take (M : List Od) (k : Nat) : (M.flatMap Od.cells).take (k * 3) = (M.take k).flatMap Od.cells := by
  induction M generalizing k with
  | nil => simp
  | cons x M ih =>
    cases k with
    | zero => simp
    | succ k =>
      rw [List.flatMap_cons, List.take_succ_cons, List.flatMap_cons, ← ih, List.take_append]
      have hc : x.cells.length = 3 := rfl
      rw [List.take_of_length_le (by omega), hc, show (k + 1) * 3 - 3 = k * 3 by omega]
theorem od_oneCell (M : List Od) : ∀ u ∈ M.flatMap Od.cells, u.oneCell' = true := by
  intro u hu
  obtain ⟨k, -, hk⟩ := List.mem_flatMap.1 hu
  simp only [Od.cells, List.mem_cons, List.not_mem_nil, or_false] at hk
  rcases hk with rfl | rfl | rfl <;> rfl

/-! ### What an op is -/
theorem copies_iff {k : Od} {n : Nat} (h : k.l.length = n) : k.d.copies = (decide (1 ≤ k.z) && decide (n = 0)) := by
  unfold Dp.copies Od.d
  congr 1
  rw [Bool.eq_iff_iff, List.isEmpty_iff, decide_eq_true_eq, ← h]
  exact ⟨fun h => by have h' : k.l = [] := h; rw [h']; rfl, List.eq_nil_of_length_eq_zero⟩
theorem literal_iff {k : Od} {n : Nat} (h : k.l.length = n) : k.d.literal = (decide (k.z = 0) && decide (k.f = 0) && decide (1 ≤ n)) := by
  unfold Dp.literal Od.d
  congr 1
  rw [Bool.eq_iff_iff, Bool.not_eq_true', List.isEmpty_eq_false_iff, decide_eq_true_eq, ← h]
  constructor
  · intro h'; exact Nat.pos_of_ne_zero fun e => h' (List.eq_nil_of_length_eq_zero e)
  · intro h' e
    have e' : k.l = [] := e
    rw [e'] at h'; simp at h'
/-- The three kinds. -/
theorem od_cases (k : Od) {n : Nat} (h : k.l.length = n) : (k.d.copies = true ∧ k.d.literal = false ∧ 1 ≤ k.z ∧ n = 0) ∨ (k.d.copies = false ∧ k.d.literal = true ∧ k.z = 0 ∧ k.f = 0 ∧ 1 ≤ n) ∨
    (k.d.copies = false ∧ k.d.literal = false ∧ ¬ (1 ≤ k.z ∧ n = 0) ∧ ¬ (k.z = 0 ∧ k.f = 0 ∧ 1 ≤ n)) := by
  have h1 := copies_iff h
  have h2 := literal_iff h
  by_cases hc : 1 ≤ k.z ∧ n = 0
  · left
    refine ⟨by rw [h1]; simp [hc.1, hc.2], ?_, hc.1, hc.2⟩
    rw [h2]
    have : ¬ k.z = 0 := by omega
    simp [this]
  · have hc' : k.d.copies = false := by rw [h1]; simp; omega
    by_cases hl : k.z = 0 ∧ k.f = 0 ∧ 1 ≤ n
    · exact .inr (.inl ⟨hc', by rw [h2]; simp [hl.1, hl.2.1]; omega, hl⟩)
    · exact .inr (.inr ⟨hc', by rw [h2]; simp; omega, hc, hl⟩)

set_option maxRecDepth 100000 in
set_option maxHeartbeats 1000000 in
theorem Copies_any (k : Od) (w : World) (hk : k.l.length = k.n) :
    Calls Try.prog 62 #[.agg #[.int .i64 k.f, .int .i64 k.z, .slice k.a k.n k.c]] w (NewNone (.bool k.d.copies) w) := by
  rw [copies_iff hk]
  clear hk
  by_cases h1 : 1 ≤ k.z
  · have hd1 : decide ((1 : Int) ≤ k.z) = true := decide_eq_true h1
    by_cases h2 : k.n = 0
    · obtain ⟨q1, q2⟩ := eqI (x := (k.n : Int)) (y := 0) (by omega)
      have hv : (decide (1 ≤ k.z) && decide (k.n = 0)) = true := by simp [h1, h2]
      rw [hv]
      clear hv h1 h2
      go_enter Try.func62, Try.ntmps62
      go_wp2
      go_ret
      exact ⟨rfl, Ext.alloc' _ _⟩
    · obtain ⟨q1, q2⟩ := neI (x := (k.n : Int)) (y := 0) (by omega)
      have hv : (decide (1 ≤ k.z) && decide (k.n = 0)) = false := by simp [h2]
      rw [hv]
      clear hv h1 h2
      go_enter Try.func62, Try.ntmps62
      go_wp2
      go_ret
      exact ⟨rfl, Ext.alloc' _ _⟩
  · have hd1 : decide ((1 : Int) ≤ k.z) = false := decide_eq_false h1
    have hv : (decide (1 ≤ k.z) && decide (k.n = 0)) = false := by simp; omega
    rw [hv]
    clear hv h1
    go_enter Try.func62, Try.ntmps62
    go_wp2
    go_ret
    exact ⟨rfl, Ext.alloc' _ _⟩

set_option maxRecDepth 100000 in
set_option maxHeartbeats 1000000 in
theorem Literal_any (k : Od) (w : World) (hk : k.l.length = k.n) :
    Calls Try.prog 61 #[.agg #[.int .i64 k.f, .int .i64 k.z, .slice k.a k.n k.c]] w (NewNone (.bool k.d.literal) w) := by
  rw [literal_iff hk]
  clear hk
  obtain ⟨b, hb⟩ : ∃ b, b = (decide (k.z = 0) && decide (k.f = 0) && decide (1 ≤ k.n)) := ⟨_, rfl⟩
  rw [← hb]
  have HB := Lib.hid hb
  clear hb
  by_cases h1 : k.z = 0
  rotate_left
  · obtain ⟨q1, q2⟩ := neI (x := k.z) (y := 0) h1
    have hv : b = false := by rw [HB.out]; simp [h1]
    subst hv
    clear h1
    go_enter Try.func61, Try.ntmps61
    go_wp2
    go_ret
    exact ⟨rfl, Ext.alloc' _ _⟩
  obtain ⟨q1, q2⟩ := eqI (x := k.z) (y := 0) h1
  by_cases h2 : k.f = 0
  rotate_left
  · obtain ⟨q3, q4⟩ := neI (x := k.f) (y := 0) h2
    have hv : b = false := by rw [HB.out]; simp [h2]
    subst hv
    clear h1 h2
    go_enter Try.func61, Try.ntmps61
    go_wp2
    go_ret
    exact ⟨rfl, Ext.alloc' _ _⟩
  obtain ⟨q3, q4⟩ := eqI (x := k.f) (y := 0) h2
  by_cases h3 : 0 < k.n
  rotate_left
  · have hd : decide (0 < k.n) = false := by simp; omega
    have hv : b = false := by rw [HB.out]; simp; omega
    subst hv
    clear h1 h2 h3
    go_enter Try.func61, Try.ntmps61
    go_wp2
    go_ret
    exact ⟨rfl, Ext.alloc' _ _⟩
  have hd : decide (0 < k.n) = true := by simp; omega
  have hv : b = true := by rw [HB.out]; simp [h1, h2]; omega
  subst hv
  clear h1 h2
  go_enter Try.func61, Try.ntmps61
  go_wp2
  go_ret
  exact ⟨rfl, Ext.alloc' _ _⟩

/-- A part as a value. -/
def partV (k : Od) : Value :=
  if k.d.copies then .iface 73 (.agg #[.int .i64 k.f, .int .i64 k.z]) else if k.d.literal then .iface 77 (.agg #[.slice k.a k.n k.c]) else .iface 97 (.agg #[])

set_option maxRecDepth 100000 in
set_option maxHeartbeats 1000000 in
theorem partOf_any (k : Od) (w : World) (hk : k.l.length = k.n) :
    Calls Try.prog 47 #[.agg #[.int .i64 k.f, .int .i64 k.z, .slice k.a k.n k.c]] w (NewNone (partV k) w) := by
  obtain ⟨v, hv⟩ : ∃ v, v = partV k := ⟨_, rfl⟩
  rw [← hv]
  unfold partV at hv
  rcases od_cases k hk with ⟨c1, c2, h1, h2⟩ | ⟨c1, c2, h1, h2, h3⟩ | ⟨c1, c2, h1, h2⟩
  · rw [if_pos c1] at hv
    obtain ⟨q1, q2⟩ := eqI (x := (k.n : Int)) (y := 0) (by omega)
    have hd1 : decide ((1 : Int) ≤ k.z) = true := decide_eq_true h1
    subst hv
    clear c1 c2 h1 h2 hk
    go_enter Try.func47, Try.ntmps47
    go_wp2
    go_ret
    exact ⟨rfl, Ext.alloc' _ _⟩
  · rw [if_neg (by rw [c1]; decide), if_pos c2] at hv
    obtain ⟨q1, q2⟩ := eqI (x := k.z) (y := 0) h1
    obtain ⟨q3, q4⟩ := eqI (x := k.f) (y := 0) h2
    have hd1 : decide ((1 : Int) ≤ k.z) = false := decide_eq_false (by omega)
    have hd2 : decide ((1 : Int) ≤ k.n) = true := by simp; omega
    subst hv
    clear c1 c2 h1 h2 hk
    go_enter Try.func47, Try.ntmps47
    go_wp2
    go_ret
    exact ⟨rfl, Ext.alloc' _ _⟩
  · rw [if_neg (by rw [c1]; decide), if_neg (by rw [c2]; decide)] at hv
    subst hv
    clear c1 c2 hk
    by_cases hz1 : 1 ≤ k.z
    · have hd1 : decide ((1 : Int) ≤ k.z) = true := decide_eq_true hz1
      obtain ⟨q1, q2⟩ := neI (x := (k.n : Int)) (y := 0) (by omega)
      obtain ⟨q3, q4⟩ := neI (x := k.z) (y := 0) (by omega)
      by_cases hf : k.f = 0
      · obtain ⟨q5, q6⟩ := eqI (x := k.f) (y := 0) hf
        clear h1 h2 hz1 hf
        go_enter Try.func47, Try.ntmps47
        go_wp2
        go_ret
        exact ⟨rfl, Ext.alloc' _ _⟩
      · obtain ⟨q5, q6⟩ := neI (x := k.f) (y := 0) hf
        clear h1 h2 hz1 hf
        go_enter Try.func47, Try.ntmps47
        go_wp2
        go_ret
        exact ⟨rfl, Ext.alloc' _ _⟩
    · have hd1 : decide ((1 : Int) ≤ k.z) = false := decide_eq_false hz1
      by_cases hf : k.f = 0
      rotate_left
      · obtain ⟨q5, q6⟩ := neI (x := k.f) (y := 0) hf
        clear h1 h2 hz1 hf
        go_enter Try.func47, Try.ntmps47
        go_wp2
        go_ret
        exact ⟨rfl, Ext.alloc' _ _⟩
      obtain ⟨q5, q6⟩ := eqI (x := k.f) (y := 0) hf
      by_cases hz0 : k.z = 0
      rotate_left
      · obtain ⟨q7, q8⟩ := neI (x := k.z) (y := 0) hz0
        clear h1 h2 hz1 hf hz0
        go_enter Try.func47, Try.ntmps47
        go_wp2
        go_ret
        exact ⟨rfl, Ext.alloc' _ _⟩
      obtain ⟨q7, q8⟩ := eqI (x := k.z) (y := 0) hz0
      have hd2 : decide ((1 : Int) ≤ k.n) = false := by simp; omega
      clear h1 h2 hz1 hf hz0
      go_enter Try.func47, Try.ntmps47
      go_wp2
      go_ret
      exact ⟨rfl, Ext.alloc' _ _⟩
end Go.Proofs.Ytkhjeeaojlaagaa
