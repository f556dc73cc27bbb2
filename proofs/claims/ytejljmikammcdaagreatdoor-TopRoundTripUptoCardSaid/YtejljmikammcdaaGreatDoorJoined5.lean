/-
  Several texts in one: PaC, PaD.
-/
import Derived.Test.YtejljmikammcdaaGreatDoorPaB
/-
  Lists in memory that a function reads ('Row') or has made itself ('ownsRow'), of texts, of patterns, of whatever has the same number of cells.
-/
namespace Go.Proofs.YtejljmikammcdaaGreatDoor
open Go.RowKit

/-! ### Lists of records -/
section
variable {α : Type} {f : α → List Value} {s : Nat}
theorem flat_len (hf : ∀ x, (f x).length = s) (L : List α) : (L.flatMap f).length = L.length * s := by
  induction L with
  | nil => simp
  | cons k L ih => rw [List.flatMap_cons, List.length_append, ih, List.length_cons, Nat.add_mul, Nat.one_mul, hf]; omega
theorem flat_get (hf : ∀ x, (f x).length = s) : ∀ {L : List α} {i : Nat} {x : α}, L[i]? = some x → ∀ j, j < s → (L.flatMap f)[i * s + j]? = (f x)[j]?
  | [], i, x, h, j, hj => by cases h
  | y :: L, 0, x, h, j, hj => by
    cases h
    rw [List.flatMap_cons, Nat.zero_mul, Nat.zero_add, List.getElem?_append_left (by rw [hf]; exact hj)]
  | y :: L, i + 1, x, h, j, hj => by
    rw [List.flatMap_cons, List.getElem?_append_right (by rw [hf, Nat.add_mul]; omega), ← flat_get hf (L := L) (i := i) (by simpa using h) j hj]
    congr 1
    rw [hf, Nat.add_mul]
    omega
theorem flat_range (hf : ∀ x, (f x).length = s) {w : World} {b o i : Nat} {L : List α} {x : α} (hk : L[i]? = some x) (hc : ∀ j, j < s → w.cell? ⟨b, o + j, none⟩ = (L.flatMap f)[i * s + j]?) : w.rangeAt b o (f x) := fun j v hj => by
  have hlt : j < s := by rw [← hf x]; exact (List.getElem?_eq_some_iff.1 hj).1
  exact (hc j hlt).trans ((flat_get hf hk j hlt).trans hj)
theorem flat_take (hf : ∀ x, (f x).length = s) (L : List α) (k : Nat) : (L.flatMap f).take (k * s) = (L.take k).flatMap f := by
  induction L generalizing k with
  | nil => simp
  | cons x M ih =>
    cases k with
    | zero => simp
    | succ k =>
      rw [List.flatMap_cons, List.take_succ_cons, List.flatMap_cons, ← ih, List.take_append, List.take_of_length_le (by rw [hf, Nat.add_mul]; omega), hf, show (k + 1) * s - s = k * s by rw [Nat.add_mul]; omega]
theorem flat_drop (hf : ∀ x, (f x).length = s) (L : List α) (k : Nat) : (L.flatMap f).drop (k * s) = (L.drop k).flatMap f := by
  induction L generalizing k with
  | nil => simp
  | cons x M ih =>
    cases k with
    | zero => simp
    | succ k =>
      rw [List.flatMap_cons, List.drop_succ_cons, ← ih, List.drop_append, List.drop_of_length_le (by rw [hf, Nat.add_mul]; omega), List.nil_append, hf, show (k + 1) * s - s = k * s by rw [Nat.add_mul]; omega]
theorem flat_one (h1 : ∀ x, ∀ v ∈ f x, v.oneCell' = true) (L : List α) : ∀ u ∈ L.flatMap f, u.oneCell' = true := fun u hu => by
  obtain ⟨x, -, hx⟩ := List.mem_flatMap.1 hu
  exact h1 x u hx
end

/-- A row that lay there when the function began (in a block below B), or one that the function has made since (of elements of type e). -/
def Lies (w : World) (B e s : Nat) (a : Option Addr) (n c : Nat) (xs : List Value) : Prop :=
  (Row w a n c s xs ∧ ∀ p, a = some p → 0 < n → p.block < B) ∨ w.ownsRow B e s (.slice a n c) n xs
theorem Lies.row {w : World} {B e s n c : Nat} {a : Option Addr} {xs : List Value} (h : Lies w B e s a n c xs) : Row w a n c s xs := by
  rcases h with h | h
  · exact h.1
  · exact Row.of_own h
theorem Lies.ext {w w' : World} {B e s n c : Nat} {a : Option Addr} {xs : List Value} (h : Lies w B e s a n c xs) (hx : Ext w w') : Lies w' B e s a n c xs := by
  rcases h with h | h
  · exact .inl ⟨h.1.ext hx, h.2⟩
  · exact .inr (own_ext h hx)
theorem Lies.own {w : World} {B e s n c : Nat} {a : Option Addr} {xs : List Value} (h : w.ownsRow B e s (.slice a n c) n xs) : Lies w B e s a n c xs := .inr h
theorem Lies.arg {w : World} {B e s n c : Nat} {a : Option Addr} {xs : List Value} (h : Row w a n c s xs) (hs : 0 < s) (hB : w.heap.size ≤ B) : Lies w B e s a n c xs :=
  .inl ⟨h, fun p hp hn => by
    have hl : 0 < xs.length := by rw [h.len]; exact Nat.mul_pos hn hs
    have := h.cell p hp 0 _ (List.getElem?_eq_getElem hl)
    have hb := World.block_lt_of_cell? _ _ this
    have e0 : (p.add 0).block = p.block := by unfold Addr.add; split <;> rfl
    rw [e0] at hb
    omega⟩
theorem Row.nil_world {w w' : World} {a : Option Addr} {c s : Nat} {xs : List Value} (h : Row w a 0 c s xs) : Row w' a 0 c s xs := by
  have hx : xs = [] := List.eq_nil_of_length_eq_zero (by rw [h.len]; simp)
  subst hx
  exact ⟨h.len, h.le, h.max, h.nil, h.at_, fun p _ j u hj => by cases hj⟩
/-- An append to, or a store into, an own list of another type leaves it alone. -/
theorem Lies.other {w w' : World} {B e s n c g t : Nat} {a : Option Addr} {xs : List Value} (h : Lies w B e s a n c xs) (hg : w.grownBy w' (some g)) (hB : B ≤ g) (hc : ∃ cur, w.heap[g]? = some (.cells cur t (0, 0))) (ht : e ≠ t) : Lies w' B e s a n c xs := by
  rcases h with h | h
  · by_cases hn : 0 < n
    · exact .inl ⟨h.1.apart hg fun p hp => by have := h.2 p hp hn; omega, h.2⟩
    · obtain rfl : n = 0 := by omega
      exact .inl ⟨h.1.nil_world, h.2⟩
  · obtain ⟨cur, hcur⟩ := hc
    exact .inr (own_other h hg fun e' => own_apart h hcur (Ne.symm ht) e'.symm)
theorem Lies.app {w w' : World} {B e s n c t s' n' c' : Nat} {a a' : Option Addr} {xs ys : List Value} (h : Lies w B e s a n c xs) (h' : w.ownsRow B t s' (.slice a' n' c') n' ys) (ht : e ≠ t) (hg : w.grownBy w' (blockOf a')) : Lies w' B e s a n c xs := by
  cases hk : blockOf a' with
  | none => rw [hk] at hg; exact h.ext (Ext.of_grown hg)
  | some b =>
    rw [hk] at hg
    exact h.other hg (own_block h' b hk).1 (own_heap h' hk) ht
theorem Lies.base {w : World} {B B' e s n c : Nat} {a : Option Addr} {xs : List Value} (h : w.ownsRow B' e s (.slice a n c) n xs) (hB : B ≤ B') : Lies w B e s a n c xs := .inr (own_base h hB)

/-! ### Texts and patterns -/
def sv (l : Str) : Value := .string (bs l)
theorem sv_one (L : List Str) : ∀ u ∈ L.map sv, u.oneCell' = true := fun u hu => by
  obtain ⟨x, -, rfl⟩ := List.mem_map.1 hu
  rfl
theorem Tryz.elStr : Elem Tryz.prog 37 9 1 16 (.string ByteArray.empty) := ⟨Tryz.underlying37, by kernel_rfl, rfl, by decide⟩
theorem sv_at {w : World} {b o i : Nat} {L : List Str} {x : Str} (hk : L[i]? = some x) (hc : ∀ j, j < 1 → w.cell? ⟨b, o + j, none⟩ = (L.map sv)[i * 1 + j]?) : w.cell? ⟨b, o, none⟩ = some (.string (bs x)) := by
  have := hc 0 (by decide)
  rw [Nat.add_zero, Nat.mul_one, Nat.add_zero, List.getElem?_map, hk] at this
  exact this

/-- A pattern in memory: where its parts lie, and what it is. -/
structure Pt where
  a : Option Addr
  n : Nat
  c : Nat
  P : Pat
instance : Inhabited Pt := ⟨⟨none, 0, 0, ⟨[], false⟩⟩⟩
def Pt.cells (k : Pt) : List Value := [.slice k.a k.n k.c, .bool k.P.rest]
abbrev Pt.v (k : Pt) : Value := .agg #[.slice k.a k.n k.c, .bool k.P.rest]
def Pt.strs (k : Pt) : List Value := k.P.parts.map sv
theorem pt_two (k : Pt) : k.cells.length = 2 := rfl
theorem pt_one (k : Pt) : ∀ v ∈ k.cells, v.oneCell' = true := fun v hv => by
  simp [Pt.cells] at hv
  rcases hv with rfl | rfl <;> rfl
/-- No part is longer than S. -/
def Small (S : Nat) (P : Pat) : Prop := ∀ p ∈ P.parts, p.length ≤ S
theorem Small.mono {S T : Nat} {P : Pat} (h : Small S P) (hs : S ≤ T) : Small T P := fun p hp => Nat.le_trans (h p hp) hs
/-- It reads as the pattern. -/
structure PtI (w : World) (S : Nat) (k : Pt) : Prop where
  row : Row w k.a k.n k.c 1 k.strs
  small : Small S k.P
theorem PtI.ext {w w' : World} {S : Nat} {k : Pt} (h : PtI w S k) (hx : Ext w w') : PtI w' S k := ⟨h.row.ext hx, h.small⟩
theorem PtI.len {w : World} {S : Nat} {k : Pt} (h : PtI w S k) : k.P.parts.length = k.n := by
  have := h.row.len
  unfold Pt.strs at this
  simpa using this
/-- The function has made it. -/
structure PtO (w : World) (B S : Nat) (k : Pt) : Prop where
  own : w.ownsRow B 9 1 (.slice k.a k.n k.c) k.n k.strs
  small : Small S k.P
theorem PtO.ext {w w' : World} {B S : Nat} {k : Pt} (h : PtO w B S k) (hx : Ext w w') : PtO w' B S k := ⟨own_ext h.own hx, h.small⟩
theorem PtO.base {w : World} {B B' S : Nat} {k : Pt} (h : PtO w B' S k) (hB : B ≤ B') : PtO w B S k := ⟨own_base h.own hB, h.small⟩
theorem PtO.i {w : World} {B S : Nat} {k : Pt} (h : PtO w B S k) : PtI w S k := ⟨Row.of_own h.own, h.small⟩
theorem PtO.nil (w : World) (B S : Nat) : PtO w B S ⟨none, 0, 0, ⟨[], false⟩⟩ := ⟨own_nil _ _ _ _, fun _ h => nomatch h⟩
/-- Either. -/
structure PtL (w : World) (B S : Nat) (k : Pt) : Prop where
  lies : Lies w B 9 1 k.a k.n k.c k.strs
  small : Small S k.P
theorem PtL.ext {w w' : World} {B S : Nat} {k : Pt} (h : PtL w B S k) (hx : Ext w w') : PtL w' B S k := ⟨h.lies.ext hx, h.small⟩
theorem PtL.i {w : World} {B S : Nat} {k : Pt} (h : PtL w B S k) : PtI w S k := ⟨h.lies.row, h.small⟩
theorem PtL.own {w : World} {B B' S : Nat} {k : Pt} (h : PtO w B' S k) (hB : B ≤ B') : PtL w B S k := ⟨Lies.base h.own hB, h.small⟩
theorem PtL.arg {w : World} {B S : Nat} {k : Pt} (h : PtI w S k) (hB : w.heap.size ≤ B) : PtL w B S k := ⟨Lies.arg h.row (by decide) hB, h.small⟩
theorem PtL.app {w w' : World} {B S t s' n' c' : Nat} {a' : Option Addr} {ys : List Value} {k : Pt} (h : PtL w B S k) (h' : w.ownsRow B t s' (.slice a' n' c') n' ys) (ht : 9 ≠ t) (hg : w.grownBy w' (blockOf a')) : PtL w' B S k := ⟨h.lies.app h' ht hg, h.small⟩
theorem PtL.mono {w : World} {B S T : Nat} {k : Pt} (h : PtL w B S k) (hs : S ≤ T) : PtL w B T k := ⟨h.lies, h.small.mono hs⟩
theorem PtI.mono {w : World} {S T : Nat} {k : Pt} (h : PtI w S k) (hs : S ≤ T) : PtI w T k := ⟨h.row, h.small.mono hs⟩
theorem PtO.mono {w : World} {B S T : Nat} {k : Pt} (h : PtO w B S k) (hs : S ≤ T) : PtO w B T k := ⟨h.own, h.small.mono hs⟩

/-! ### pattern.Check, Kinds -/
def okTo (ps : List Str) (j : Nat) : Prop := ∀ i p, i < j → ps[i]? = some p → form p ≠ 0 ∧ (i = 0 → form p ≠ 2)
theorem partsOk_iff {ps : List Str} : partsOk ps = true ↔ ps ≠ [] ∧ okTo ps ps.length := by
  cases ps with
  | nil => simp [partsOk]
  | cons a ps =>
    unfold partsOk okTo
    rw [Bool.and_eq_true, beq_iff_eq, List.all_eq_true]
    constructor
    · rintro ⟨h1, h2⟩
      refine ⟨by simp, fun i p hi hp => ?_⟩
      cases i with
      | zero => cases hp; rw [h1]; exact ⟨by decide, fun _ => by decide⟩
      | succ i => exact ⟨by simpa using h2 p (List.mem_of_getElem? (by simpa using hp)), fun h => by cases h⟩
    · rintro ⟨-, h⟩
      refine ⟨?_, fun p hp => ?_⟩
      · obtain ⟨h1, h2⟩ := h 0 a (by simp) rfl
        rcases form_cases a with e | e | e
        · exact absurd e h1
        · exact e
        · exact absurd e (h2 rfl)
      · obtain ⟨i, hi⟩ := List.getElem?_of_mem hp
        have := (h (i + 1) p (by have := (List.getElem?_eq_some_iff.1 hi).1; simp; omega) (by simpa using hi)).1
        simpa using this
theorem okTo.step {ps : List Str} {j : Nat} {p : Str} (h : okTo ps j) (hp : ps[j]? = some p) (h0 : form p ≠ 0) (h2 : j = 0 → form p ≠ 2) : okTo ps (j + 1) := fun i q hi hq => by
  by_cases hij : i = j
  · subst hij; rw [hp] at hq; cases hq; exact ⟨h0, h2⟩
  · exact h i q (by omega) hq
theorem chk_bad {P : Pat} {i : Nat} {p : Str} (hp : P.parts[i]? = some p) (h : form p = 0 ∨ (i = 0 ∧ form p = 2)) : chkP P = 30 := by
  unfold chkP formP
  have : partsOk P.parts = false := by
    apply Bool.eq_false_iff.2
    intro hk
    have := (partsOk_iff.1 hk).2 i p (List.getElem?_eq_some_iff.1 hp).1 hp
    rcases h with h | ⟨h1, h2⟩
    · exact this.1 h
    · exact this.2 h1 h2
  rw [this, Bool.and_false, if_neg (by decide)]
theorem chk_good {P : Pat} (h1 : P.parts.length = 1 → P.rest = true) (h0 : P.parts ≠ []) (h : okTo P.parts P.parts.length) : chkP P = if 12 < P.parts.length then 31 else 0 := by
  unfold chkP formP
  rw [partsOk_iff.2 ⟨h0, h⟩, Bool.and_true, if_pos]
  by_cases hl : P.parts.length = 1
  · rw [h1 hl]; simp
  · simp [hl]

theorem chk_nil {P : Pat} (h : P.parts.length = 0) : chkP P = 30 := by
  unfold chkP formP
  rw [List.eq_nil_of_length_eq_zero h]
  simp [partsOk]
theorem chk_one {P : Pat} (h : P.parts.length = 1) (hr : P.rest = false) : chkP P = 30 := by
  unfold chkP formP
  simp [h, hr]
/-- A box of two cells. -/
theorem box2 {w : World} {g : Nat} {x y : Value} {t : TypeId} {fr : Nat × Nat} (h : w.heap[g]? = some (.cells #[x, y] t fr)) : w.cell? ⟨g, 0, none⟩ = some x ∧ w.cell? ⟨g, 1, none⟩ = some y ∧ w.rangeAt g 0 [x, y] :=
  ⟨by rw [cell_of_row w g 0 _ _ _ h]; rfl, by rw [cell_of_row w g 1 _ _ _ h]; rfl, range_of_heap2 h⟩
def ChkRel (P : Pat) (i : Value) : Prop := ∃ j : Nat, i = .int .i64 j ∧ j ≤ P.parts.length ∧ okTo P.parts j
set_option maxRecDepth 100000 in
set_option maxHeartbeats 4000000 in
theorem Check_any (k : Pt) (S : Nat) (w : World) (hk : PtI w S k) (hS : S < 4611686018427387904) : Calls Tryz.prog 75 #[k.v] w (NewNone (.int .i64 (chkP k.P : Nat)) w) := by
  obtain ⟨a, n, c, ⟨ps, rest⟩⟩ := k
  have hn := hk.len
  have HROW := Lib.hid (hk.row.ext (Ext.alloc' w (.cells #[.slice a n c, .bool rest] 39)))
  have HSM := Lib.hid hk.small
  have hmx : n ≤ 9223372036854775807 := by have h1 := hk.row.max; have h2 := hk.row.le; simp only [maxLen] at h1; simp only at h2; omega
  have HX := Lib.hid (Ext.alloc' w (.cells #[.slice a n c, .bool rest] 39))
  obtain ⟨r, hr⟩ : ∃ r, r = chkP ⟨ps, rest⟩ := ⟨_, rfl⟩
  show Calls _ _ _ _ (NewNone (.int .i64 (chkP ⟨ps, rest⟩ : Nat)) w)
  rw [← hr]
  have HR := Lib.hid hr
  have HN := Lib.hid (show ps.length = n from hn)
  clear hr hk hn
  by_cases h0 : n = 0
  · have HRV := Lib.hid (show r = 30 by rw [HR.out]; exact chk_nil (by show ps.length = 0; rw [HN.out, h0]))
    obtain ⟨q1, q2⟩ := eqI (x := (n : Int)) (y := 0) (by omega)
    clear h0
    go_enter Tryz.func75, Tryz.ntmps75
    go_wp2
    go_ret
    exact ⟨ret_int (by rw [HRV.out]; rfl), HX.out⟩
  obtain ⟨q1, q2⟩ := neI (x := (n : Int)) (y := 0) (by omega)
  by_cases h1 : n = 1 ∧ rest = false
  · obtain ⟨h1, rfl⟩ := h1
    have HRV := Lib.hid (show r = 30 by rw [HR.out]; exact chk_one (by show ps.length = 1; rw [HN.out, h1]) rfl)
    obtain ⟨q3, q4⟩ := eqI (x := (n : Int)) (y := 1) (by omega)
    clear h0 h1
    go_enter Tryz.func75, Tryz.ntmps75
    go_wp2
    go_ret
    exact ⟨ret_int (by rw [HRV.out]; rfl), HX.out⟩
  have HG := Lib.hid (fun h => chk_good (P := ⟨ps, rest⟩) (by show ps.length = 1 → _; rw [HN.out]; intro e; cases hr : rest with
    | true => rfl
    | false => exact absurd ⟨e, hr⟩ h1) (by intro e; have e' : ps = [] := e; rw [← HN.out, e'] at h0; exact h0 rfl) h)
  have q5 : (((n : Int) == 1) = true ∧ rest = true) ∨ ((n : Int) == 1) = false := by
    by_cases h2 : n = 1
    · exact .inl ⟨(eqI (by omega)).1, by cases hr : rest with
        | true => rfl
        | false => exact absurd ⟨h2, hr⟩ h1⟩
    · exact .inr (neI (by omega)).1
  clear h0 h1
  go_enter Tryz.func75, Tryz.ntmps75
  go_upto_region 1 with fail
  obtain ⟨w1, hw1⟩ : ∃ w1, w1 = w.alloc (.cells #[.slice a n c, .bool rest] 39) := ⟨_, rfl⟩
  obtain ⟨c0, c1, -⟩ := box2 (w := w1) (g := w.heap.size) (x := .slice a n c) (y := .bool rest) (by rw [hw1]; exact heap_alloc_new w _)
  rw [← hw1] at HROW HX ⊢
  generalize w.heap.size = b at c0 c1 ⊢
  clear hw1
  go_cut [19] from 5 (fun s19 w' => s19 = .bool false ∧ w' = w1)
  case first =>
    rcases q5 with ⟨q5, rfl⟩ | q5
    · go_wp2
      go_meet
      case rel => exact ⟨rfl, rfl⟩
    · go_wp2
      go_meet
      case rel => exact ⟨rfl, rfl⟩
  obtain ⟨rfl, rfl⟩ := hcut
  clear q5
  go_upto_region 4 with fail
  go_loop [23] (ChkRel ⟨ps, rest⟩) (fun i => n - (intOf i).toNat)
  case atStart => exact ⟨0, rfl, Nat.zero_le _, fun i p hi => by omega⟩
  case round =>
    obtain ⟨j, rfl, hj, hst⟩ := hrel
    have HST := Lib.hid hst
    have hj' : j ≤ n := by rw [← HN.out]; exact hj
    clear hst hj
    by_cases hjl : j < n
    · obtain ⟨p, hp⟩ : ∃ p, ps[j]? = some p := ⟨_, List.getElem?_eq_getElem (by rw [HN.out]; exact hjl)⟩
      have HP := Lib.hid hp
      have HF := Lib.hid (formOf_any p wc (Nat.lt_of_le_of_lt (HSM.out p (List.mem_of_getElem? hp)) hS))
      clear hp
      obtain ⟨m, hm⟩ : ∃ m, m = form p := ⟨_, rfl⟩
      rw [← hm] at HF
      have HM := Lib.hid hm
      clear hm
      by_cases hm0 : m = 0
      · have HRV := Lib.hid (show r = 30 by rw [HR.out]; exact chk_bad HP.out (.inl (by rw [← HM.out]; exact hm0)))
        subst hm0
        go_wp2_with (first
          | ((with_reducible refine atSlot 26 ?_); refine wpList_of_wp rfl (owp_ix (o := ⟨some 26, _, _, _, _, _⟩) _ _ rfl Tryz.elStr rfl HROW.out j rfl rfl hjl ?_); intro b1 o1 hc2; have hd := sv_at HP.out hc2; clear hc2)
          | (go_at_call 99; (with_reducible refine HF.out.mono ?_); rintro en w' ⟨rfl, rfl⟩)
          | fail)
        go_ret
        exact ⟨ret_int (by rw [HRV.out]; rfl), HX.out⟩
      · obtain ⟨q3, q4⟩ := neI (x := (m : Int)) (y := 0) (by omega)
        by_cases hm2 : m = 2
        · subst hm2
          by_cases hj0 : j = 0
          · have HRV := Lib.hid (show r = 30 by rw [HR.out]; exact chk_bad HP.out (.inr ⟨hj0, by rw [← HM.out]⟩))
            subst hj0
            go_wp2_with (first
              | ((with_reducible refine atSlot 26 ?_); refine wpList_of_wp rfl (owp_ix (o := ⟨some 26, _, _, _, _, _⟩) _ _ rfl Tryz.elStr rfl HROW.out 0 rfl rfl hjl ?_); intro b1 o1 hc2; have hd := sv_at HP.out hc2; clear hc2)
              | (go_at_call 99; (with_reducible refine HF.out.mono ?_); rintro en w' ⟨rfl, rfl⟩)
              | fail)
            go_ret
            exact ⟨ret_int (by rw [HRV.out]; rfl), HX.out⟩
          · obtain ⟨q5, q6⟩ := neI (x := (j : Int)) (y := 0) (by omega)
            have HOK := Lib.hid (HST.out.step HP.out (by rw [← HM.out]; decide) (fun h => absurd h hj0))
            go_wp2_with (first
              | ((with_reducible refine atSlot 26 ?_); refine wpList_of_wp rfl (owp_ix (o := ⟨some 26, _, _, _, _, _⟩) _ _ rfl Tryz.elStr rfl HROW.out j rfl rfl hjl ?_); intro b1 o1 hc2; have hd := sv_at HP.out hc2; clear hc2)
              | (go_at_call 99; (with_reducible refine HF.out.mono ?_); rintro en w' ⟨rfl, rfl⟩)
              | fail)
            go_round
            case rel => exact ⟨j + 1, by go_num, by show j + 1 ≤ ps.length; rw [HN.out]; omega, HOK.out⟩
            case measure => simp [intOf]; omega
        · obtain ⟨q5, q6⟩ := neI (x := (m : Int)) (y := 2) (by omega)
          have HOK := Lib.hid (HST.out.step HP.out (by rw [← HM.out]; exact hm0) (fun _ => by rw [← HM.out]; exact hm2))
          go_wp2_with (first
            | ((with_reducible refine atSlot 26 ?_); refine wpList_of_wp rfl (owp_ix (o := ⟨some 26, _, _, _, _, _⟩) _ _ rfl Tryz.elStr rfl HROW.out j rfl rfl hjl ?_); intro b1 o1 hc2; have hd := sv_at HP.out hc2; clear hc2)
            | (go_at_call 99; (with_reducible refine HF.out.mono ?_); rintro en w' ⟨rfl, rfl⟩)
            | fail)
          go_round
          case rel => exact ⟨j + 1, by go_num, by show j + 1 ≤ ps.length; rw [HN.out]; omega, HOK.out⟩
          case measure => simp [intOf]; omega
    · obtain rfl : j = n := by omega
      have HRV := Lib.hid (show r = if 12 < j then 31 else 0 by rw [HR.out, HG.out (by show okTo ps ps.length; rw [HN.out]; exact HST.out)]; show (if 12 < ps.length then _ else _) = _; rw [HN.out])
      by_cases h12 : 12 < j
      · go_wp2
        go_ret
        exact ⟨ret_int (by rw [HRV.out, if_pos h12]; rfl), HX.out⟩
      · go_wp2
        go_ret
        exact ⟨ret_int (by rw [HRV.out, if_neg h12]; rfl), HX.out⟩
end Go.Proofs.YtejljmikammcdaaGreatDoor
/-
  Layer pattern: slices.Clone, Copy, Kinds, Inside, Within.
-/
namespace Go.Proofs.YtejljmikammcdaaGreatDoor
open Go.RowKit

/-- A new slice of n elements that holds the cells. -/
def NewRow (xs : List Value) (e s n : Nat) (w : World) (en : Ending) (w' : World) : Prop := ∃ a c, en = .returned (.slice a n c) ∧ w'.ownsRow w.heap.size e s (.slice a n c) n xs ∧ Ext w w'
theorem two_boxes (w : World) (x y : Array Value) (t u : TypeId) : Ext w ((w.alloc (.cells x t)).alloc (.cells y u)) ∧
    ((w.alloc (.cells x t)).alloc (.cells y u)).heap[w.heap.size]? = some (.cells x t) ∧ ((w.alloc (.cells x t)).alloc (.cells y u)).heap[w.heap.size + 1]? = some (.cells y u) :=
  ⟨(Ext.alloc' w _).trans' (Ext.alloc' _ _), (Ext.alloc' (w.alloc (.cells x t)) _).heap' (heap_alloc_new w _), by
    have := heap_alloc_new (w.alloc (.cells x t)) (.cells y u)
    simpa using this⟩
theorem Tryz.elPat : Elem Tryz.prog 51 39 2 32 (.agg #[.slice none 0 0, .bool false]) := ⟨Tryz.underlying51, by kernel_rfl, rfl, by decide⟩
set_option maxRecDepth 100000 in
theorem CloneS_any (a : Option Addr) (n c : Nat) (xs : List Value) (w : World) (hb : Row w a n c 1 xs) (h1 : ∀ u ∈ xs, u.oneCell' = true) (hn : n ≤ 1099511627776) :
    Calls Tryz.prog 54 #[.slice a n c] w (NewRow xs 9 1 n w) := by
  cases a with
  | none =>
    have h2 := hb.nil rfl
    have h3 := hb.le
    obtain rfl : c = 0 := h2
    obtain rfl : n = 0 := by omega
    obtain rfl : xs = [] := List.eq_nil_of_length_eq_zero (by have := hb.len; simpa using this)
    have hq := Lib.run_eql_slice_nil (P := Tryz.prog) w 37 9 none 0 0 0 0 Tryz.underlying37
    go_enter Tryz.func54, Tryz.ntmps54
    go_wp2
    go_ret
    exact ⟨none, 0, rfl, own_nil _ _ _ _, Below.refl _ _⟩
  | some p =>
    have hq := Lib.run_eql_slice_nil (P := Tryz.prog) w 37 9 (some p) n c 0 0 Tryz.underlying37
    go_enter Tryz.func54, Tryz.ntmps54
    go_wp2_with (at_builtin; with_reducible refine wpList_app rfl _ _ rfl Tryz.elStr rfl (own_lit w #[] w.heap.size 9 0 1 (Nat.le_refl _) (by decide) rfl) rfl (hb.ext (Ext.alloc' _ _)) h1 (by omega) (by unfold maxLen; omega) (by simp) ?_; intro a1 c1 w1 ho1 hg1)
    go_ret
    refine ⟨a1, c1, by simp, ?_, ?_⟩
    · simpa using ho1
    · exact below_app (Ext.alloc' w _) (own_lit w #[] w.heap.size 9 0 1 (Nat.le_refl _) (by decide) rfl) hg1 (by simp)
set_option maxRecDepth 100000 in
theorem CloneP_any (a : Option Addr) (n c : Nat) (xs : List Value) (w : World) (hb : Row w a n c 2 xs) (h1 : ∀ u ∈ xs, u.oneCell' = true) (hn : n ≤ 1099511627776) :
    Calls Tryz.prog 28 #[.slice a n c] w (NewRow xs 39 2 n w) := by
  cases a with
  | none =>
    have h2 := hb.nil rfl
    have h3 := hb.le
    obtain rfl : c = 0 := h2
    obtain rfl : n = 0 := by omega
    obtain rfl : xs = [] := List.eq_nil_of_length_eq_zero (by have := hb.len; simpa using this)
    have hq := Lib.run_eql_slice_nil (P := Tryz.prog) w 51 39 none 0 0 0 0 Tryz.underlying51
    go_enter Tryz.func28, Tryz.ntmps28
    go_wp2
    go_ret
    exact ⟨none, 0, rfl, own_nil _ _ _ _, Below.refl _ _⟩
  | some p =>
    have hq := Lib.run_eql_slice_nil (P := Tryz.prog) w 51 39 (some p) n c 0 0 Tryz.underlying51
    go_enter Tryz.func28, Tryz.ntmps28
    go_wp2_with (at_builtin; with_reducible refine wpList_app rfl _ _ rfl Tryz.elPat rfl (own_lit w #[] w.heap.size 39 0 2 (Nat.le_refl _) (by decide) rfl) rfl (hb.ext (Ext.alloc' _ _)) h1 (by omega) (by unfold maxLen; omega) (by simp) ?_; intro a1 c1 w1 ho1 hg1)
    go_ret
    refine ⟨a1, c1, by simp, ?_, ?_⟩
    · simpa using ho1
    · exact below_app (Ext.alloc' w _) (own_lit w #[] w.heap.size 39 0 2 (Nat.le_refl _) (by decide) rfl) hg1 (by simp)

/-- A new pattern. -/
def NewPt (P : Pat) (S : Nat) (w : World) (en : Ending) (w' : World) : Prop := ∃ k : Pt, k.P = P ∧ en = .returned k.v ∧ PtO w' w.heap.size S k ∧ Ext w w'
set_option maxRecDepth 100000 in
set_option maxHeartbeats 2000000 in
theorem Copy_any (k : Pt) (S : Nat) (w : World) (hk : PtI w S k) (hn : k.n ≤ 1099511627776) : Calls Tryz.prog 20 #[k.v] w (NewPt k.P S w) := by
  obtain ⟨a, n, c, ⟨ps, rest⟩⟩ := k
  have HSM := Lib.hid hk.small
  have HCL := Lib.hid fun w' (h : Ext w w') => CloneS_any a n c (ps.map sv) w' (hk.row.ext h) (sv_one ps) hn
  clear hk hn
  go_enter Tryz.func20, Tryz.ntmps20
  go_upto_region 1 with fail
  obtain ⟨hx2, hh1, hh2⟩ := two_boxes w #[.slice a n c, .bool rest] #[.slice none 0 0, .bool false] 39 39
  generalize (w.alloc (.cells #[.slice a n c, .bool rest] 39)).alloc (.cells #[.slice none 0 0, .bool false] 39) = w2 at hx2 hh1 hh2 ⊢
  have HX := Lib.hid hx2
  have HB0 := Lib.hid fun w' (h : Ext w2 w') => cell_of_row w' w.heap.size 0 _ _ _ (h.heap' hh1)
  have HB1 := Lib.hid fun w' (h : Ext w2 w') => cell_of_row w' w.heap.size 1 _ _ _ (h.heap' hh1)
  have HH2 := Lib.hid hh2
  have E2 := Ext.drew' w2
  clear hx2 hh1 hh2
  refine wp_region_e [6] (.qs [0, 1, 3, 4] (.l 2 (.qs [5] (.l 6 .nil)))) (by kernel_rfl) (by kernel_rfl) ?_
  ((refine wpY_q rfl rfl _ (fun w' hx' => by go_simp; try rfl) ?_; go_simp))
  refine wpY_q rfl rfl (.slice a n c) (fun w' hx' => by have hb' := HB0.out w' hx'; go_simp; try rfl) ?_
  go_simp
  ((refine wpY_q rfl rfl _ (fun w' hx' => by go_simp; try rfl) ?_; go_simp))
  refine wpY_q rfl rfl (.bool rest) (fun w' hx' => by have hb' := HB1.out w' hx'; go_simp; try rfl) ?_
  go_simp
  refine wpY_l rfl rfl ?_
  go_simp
  refine (HCL.out _ (HX.out.trans' E2)).mono ?_
  rintro en w3 ⟨a3, c3, rfl, ho3, hx3⟩
  refine ⟨E2.trans' hx3, ?_⟩
  have hx23 := E2.trans' hx3
  have hh3 := hx23.heap' HH2.out
  go_simp
  ((refine wpY_q rfl rfl _ (fun w' hx' => by go_simp; try rfl) ?_; go_simp))
  go_simp
  refine wpY_l rfl rfl (wp_store_row _ _ _ rfl (w.heap.size + 1) #[.slice a3 n c3, .bool rest] rfl rfl _ _ hh3 (by kernel_rfl) rfl (by simp [Value.oneCell']) ?_)
  have ho4 := own_other ho3 (grown_setRow w3 (w.heap.size + 1) #[.slice a3 n c3, .bool rest]) (fun e => own_apart ho3 hh3 (by decide) e.symm)
  refine ⟨fun h => absurd h (by decide), wpY_nil ?_⟩
  go_wp2
  refine bodyPost_ret (results_cells rfl _ (w.heap.size + 1) [.slice a3 n c3, .bool rest] _ rfl (fun i v hi => by rw [cell_of_row _ _ i _ _ _ (setRow_heap _ _ _ _ _ _ hh3)]; simpa using hi) Tryz.underlying39 rfl (by kernel_rfl)) rfl ?_
  have hsz := HX.out.size
  exact ⟨⟨a3, n, c3, ⟨ps, rest⟩⟩, rfl, rfl, ⟨own_base ho4 (by have := E2.size; omega), HSM.out⟩, (HX.out.trans' hx23).setRow (by omega)⟩

/-! ### Kinds -/
theorem stars_take {ps : List Str} {j : Nat} {p : Str} (h : ps[j]? = some p) : stars (ps.take (j + 1)) = stars (ps.take j) + if star p then 1 else 0 := by
  rw [List.take_add_one, h, stars_append]
  show _ + stars [p] = _
  rw [stars_cons]; simp [stars]
theorem stars_le (ps : List Str) : stars ps ≤ ps.length := List.countP_le_length
def KindRel (ps : List Str) (m i : Value) : Prop := ∃ j : Nat, i = .int .i64 j ∧ j ≤ ps.length ∧ m = .int .i64 (stars (ps.take j) : Nat)
/-- pattern.Kinds: what it answers. -/
def KndO (P : Pat) (w : World) (en : Ending) (w' : World) : Prop :=
  (∃ (e : Nat) (r : Bool) (s : Nat), en = .returned (.tuple #[.int .i64 (s : Nat), .bool r, .int .i64 (e : Nat)]) ∧ (e = 0 ↔ OkP P) ∧ (e = 0 → s = stars P.parts ∧ r = P.rest)) ∧ Ext w w'
set_option maxRecDepth 100000 in
set_option maxHeartbeats 2000000 in
theorem Kinds_any (k : Pt) (S : Nat) (w : World) (hk : PtI w S k) (hS : S < 4611686018427387904) : Calls Tryz.prog 74 #[k.v] w (KndO k.P w) := by
  have HOK := Lib.hid (show chkP k.P = 0 ↔ OkP k.P from okP_iff.symm.trans okP_of)
  have HCK := Lib.hid fun w' (h : Ext w w') => Check_any k S w' (hk.ext h) hS
  obtain ⟨a, n, c, ⟨ps, rest⟩⟩ := k
  have HN := Lib.hid (show ps.length = n from hk.len)
  have HROW := Lib.hid fun w' (h : Ext w w') => (show Row w' a n c 1 (ps.map sv) from hk.row.ext h)
  have hmx : n ≤ 9223372036854775807 := by have h1 := hk.row.max; have h2 := hk.row.le; simp only [maxLen] at h1; simp only at h2; omega
  have HX := Lib.hid (Ext.alloc' w (.cells #[.slice a n c, .bool rest] 39))
  have hh := heap_alloc_new w (.cells #[.slice a n c, .bool rest] 39)
  obtain ⟨e, he⟩ : ∃ e, e = chkP ⟨ps, rest⟩ := ⟨_, rfl⟩
  have HCK' := Lib.hid (show ∀ w', Ext w w' → Calls Tryz.prog 75 #[.agg #[.slice a n c, .bool rest]] w' (NewNone (.int .i64 (e : Nat)) w') from by rw [he]; exact HCK.out)
  have HOK' := Lib.hid (show e = 0 ↔ OkP ⟨ps, rest⟩ from by rw [he]; exact HOK.out)
  clear HCK HOK he hk
  go_enter Tryz.func74, Tryz.ntmps74
  go_upto_region 1 with fail
  generalize w.alloc (.cells #[.slice a n c, .bool rest] 39) = w1 at HX hh ⊢
  generalize w.heap.size = b at hh ⊢
  have HHB := Lib.hid hh
  obtain ⟨-, -, hrg⟩ := box2 hh
  clear hh
  by_cases he0 : e = 0
  · obtain ⟨q1, q2⟩ := eqI (x := (e : Int)) (y := 0) (by omega)
    go_upto_region 4 with (first
      | ((with_reducible refine atSlot 8 ?_); refine wpList_of_wp rfl (wp_load_mid (op := ⟨some 8, _, _, _, _, _⟩) 39 _ rfl b 0 rfl [.slice a n c, .bool rest] _ hrg Tryz.underlying39 rfl (by kernel_rfl) ?_); clear hrg)
      | (go_at_call 75; (with_reducible refine (HCK'.out _ HX.out).mono ?_); rintro en w2 ⟨rfl, hx2⟩)
      | fail)
    have HX2 := Lib.hid (HX.out.trans' hx2)
    have HHB2 := Lib.hid (hx2.heap' HHB.out)
    obtain ⟨c0, -, -⟩ := box2 HHB2.out
    clear HX HHB hx2
    go_upto_region 5 with fail
    clear c0 q1 q2
    go_loop [2, 16] (KindRel ps) (fun _ i => n - (intOf i).toNat)
    case atStart => exact ⟨0, rfl, Nat.zero_le _, rfl⟩
    case round =>
      obtain ⟨j, rfl, hj, rfl⟩ := hrel
      have hj' : j ≤ n := by rw [← HN.out]; exact hj
      have hsl : stars (ps.take j) ≤ j := Nat.le_trans (stars_le _) (List.length_take_le ..)
      clear hj
      by_cases hjl : j < n
      · obtain ⟨p, hp⟩ : ∃ p, ps[j]? = some p := ⟨_, List.getElem?_eq_getElem (by rw [HN.out]; exact hjl)⟩
        have HP := Lib.hid hp
        have HSP := Lib.hid (stars_take hp)
        have HF := Lib.hid (isStar_any p w2)
        have hrow := HROW.out w2 HX2.out
        clear hp
        obtain ⟨q, hq⟩ : ∃ q, q = star p := ⟨_, rfl⟩
        rw [← hq] at HF HSP
        obtain ⟨m, hm⟩ : ∃ m, m = stars (ps.take j) := ⟨_, rfl⟩
        rw [← hm] at HSP hsl ⊢
        clear hq hm
        cases q with
        | true =>
          go_wp2_with (first
            | ((with_reducible refine atSlot 18 ?_); refine wpList_of_wp rfl (owp_ix (o := ⟨some 18, _, _, _, _, _⟩) _ _ rfl Tryz.elStr rfl hrow j rfl rfl hjl ?_); intro b1 o1 hc2; have hd := sv_at HP.out hc2; clear hc2 hrow)
            | (go_at_call 92; (with_reducible refine HF.out.mono ?_); rintro en w' ⟨rfl, rfl⟩)
            | fail)
          go_round
          case rel => exact ⟨j + 1, by go_num, by rw [HN.out]; omega, by rw [HSP.out]; go_num⟩
          case measure => simp [intOf]; omega
        | false =>
          go_wp2_with (first
            | ((with_reducible refine atSlot 18 ?_); refine wpList_of_wp rfl (owp_ix (o := ⟨some 18, _, _, _, _, _⟩) _ _ rfl Tryz.elStr rfl hrow j rfl rfl hjl ?_); intro b1 o1 hc2; have hd := sv_at HP.out hc2; clear hc2 hrow)
            | (go_at_call 92; (with_reducible refine HF.out.mono ?_); rintro en w' ⟨rfl, rfl⟩)
            | fail)
          go_round
          case rel => exact ⟨j + 1, by go_num, by rw [HN.out]; omega, by rw [HSP.out]; simp⟩
          case measure => simp [intOf]; omega
      · obtain rfl : j = n := by omega
        have HFU := Lib.hid (show ps.take j = ps by rw [← HN.out, List.take_length])
        rw [HFU.out]
        have HB1 := Lib.hid fun w' (h : Ext w2 w') => cell_of_row w' b 1 _ _ _ (h.heap' HHB2.out)
        have E2 := Ext.drew' w2
        go_upto_region 10 with fail
        refine wp_region_e [] (.qs [0, 1, 2, 3, 4, 5] .nil) (by kernel_rfl) (by kernel_rfl) ?_
        iterate 2 ((refine wpY_q rfl rfl _ (fun w' hx' => by go_simp; try rfl) ?_; go_simp))
        refine wpY_q rfl rfl (.bool rest) (fun w' hx' => by have hb' := HB1.out w' hx'; go_simp; try rfl) ?_
        go_simp
        iterate 3 ((refine wpY_q rfl rfl _ (fun w' hx' => by go_simp; try rfl) ?_; go_simp))
        refine wpY_nil ?_
        go_wp2
        go_ret3
        exact ⟨⟨0, rest, stars ps, rfl, (by have h := HOK'.out; rw [he0] at h; exact h), fun _ => ⟨rfl, rfl⟩⟩, HX2.out.trans' E2⟩
  · obtain ⟨q1, q2⟩ := neI (x := (e : Int)) (y := 0) (by omega)
    go_upto_region 3 with (first
      | ((with_reducible refine atSlot 8 ?_); refine wpList_of_wp rfl (wp_load_mid (op := ⟨some 8, _, _, _, _, _⟩) 39 _ rfl b 0 rfl [.slice a n c, .bool rest] _ hrg Tryz.underlying39 rfl (by kernel_rfl) ?_); clear hrg)
      | (go_at_call 75; (with_reducible refine (HCK'.out _ HX.out).mono ?_); rintro en w2 ⟨rfl, hx2⟩)
      | fail)
    go_wp2
    go_ret3
    exact ⟨⟨e, false, 0, rfl, HOK'.out, fun h => absurd h he0⟩, HX.out.trans' hx2⟩
end Go.Proofs.YtejljmikammcdaaGreatDoor
