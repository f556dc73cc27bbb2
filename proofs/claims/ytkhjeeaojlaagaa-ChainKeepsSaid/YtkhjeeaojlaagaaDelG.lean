/-
  The builder of the program's deltas: what it holds, and add.
-/
import Derived.Test.YtkhjeeaojlaagaaDelC
import Derived.Test.YtkhjeeaojlaagaaDelF
namespace Go.Proofs.Ytkhjeeaojlaagaa
open Go.RowKit

/-- A store of a value of one cell, in a row. -/
theorem owp_st1 {P : Program} {w : World} {o : Oper} {a : Act} {K : Act → World → Prop} {Q : Exit → Act → World → Prop} (ty : TypeId) (x y : Operand) (ho : o.op = .store ty x y)
    (b j : Nat) (v : Value) (hx : a.eval x = .pointer (some ⟨b, j, none⟩)) (hy : a.eval y = v) (hv : v.cells = #[v]) (ht : w.there b j 1) (hi : (P.info? ty).map (·.size) = some 1) (h1 : v.oneCell' = true)
    (h : K (a.put o.dst undef) (w.setCell ⟨b, j, none⟩ v)) : o.wp P a w K Q := by
  have hm := run_storeVar_mid (P := P) w b j ty #[v] ht hi (by simpa using h1)
  have he : storeVar ty ⟨b, j, none⟩ v = storeVar ty ⟨b, j, none⟩ (.agg #[v]) := by
    unfold storeVar; rw [hv]; rfl
  rw [← he] at hm
  unfold Oper.wp execOp
  simp only [ho, hx, hy, Instr.storeAt, Instr.sureAddr, Sem.run_bind, Sem.run_pure, Result.andThen_ok, hm]
  exact h
theorem there_one {w : World} {b j : Nat} {v : Value} (h : w.cell? ⟨b, j, none⟩ = some v) (hf : w.frozen? ⟨b, j, none⟩ = false) : w.there b j 1 := fun i hi => by
  obtain rfl : i = 0 := by omega
  exact ⟨by simp [h], by simpa using hf⟩

/-- The builder at block g: its ops' row, each op's data in a block of its own, the last one's from m on. -/
structure Bld (w : World) (g : Nat) (a : Option Addr) (n c : Nat) (L : List Od) (m : Nat) : Prop where
  box : w.heap[g]? = some (.cells #[.slice a n c] 71 (0, 0))
  len : L.length = n
  own : w.ownsRow (g + 1) 83 3 (.slice a n c) n (L.flatMap Od.cells)
  gm : g < m
  mh : m ≤ w.heap.size
  dat : ∀ y ∈ L, w.ownsRow (g + 1) 5 1 (.slice y.a y.n y.c) y.n (y.l.map u8) ∧ y.n ≤ 140737488355328 ∧ i64B y.f ∧ i64B y.z
  low : ∀ y ∈ L.dropLast, ∀ k, blockOf y.a = some k → k < m
  last : ∀ y, L.getLast? = some y → w.ownsRow m 5 1 (.slice y.a y.n y.c) y.n (y.l.map u8)
/-- Blocks of other types than a builder's stand. -/
def tyB (t : TypeId) : Prop := t = 71 ∨ t = 83 ∨ t = 5
def KeepB (w w' : World) : Prop := ∀ (k : Nat) (cs : Array Value) (t : TypeId) (fr : Nat × Nat), ¬ tyB t → w.heap[k]? = some (Obj.cells cs t fr) → w'.heap[k]? = some (Obj.cells cs t fr)
theorem KeepB.of_ext {w w' : World} (h : Ext w w') : KeepB w w' := fun _ _ _ _ _ hk => h.heap' hk
theorem KeepB.grown {w w' w'' : World} {o : Option Nat} (h : KeepB w w') (hg : w'.grownBy w'' o) (ho : ∀ g, o = some g → ∃ cur t, w'.heap[g]? = some (.cells cur t (0, 0)) ∧ tyB t) : KeepB w w'' := fun k cs t fr ht hk => by
  have h1 := h k cs t fr ht hk
  rw [hg.block k (Array.getElem?_eq_some_iff.1 h1).1 (fun e => ?_)]
  · exact h1
  · obtain ⟨cur, t', h2, h3⟩ := ho k e.symm
    rw [h1] at h2
    simp only [Option.some.injEq, Obj.cells.injEq] at h2
    exact ht (by rw [h2.2.1]; exact h3)
/-- A builder somewhere. -/
def BldR (w0 : World) (g : Nat) (D : List Dp) (e : Ending) (w : World) : Prop :=
  e = .returned (.tuple #[]) ∧ Below g w0 w ∧ KeepB w0 w ∧ ∃ a n c L m, Bld w g a n c L m ∧ L.map Od.d = D
theorem Bld.ops {w : World} {g n c m : Nat} {a : Option Addr} {L : List Od} (h : Bld w g a n c L m) : Ops w a n c L :=
  ⟨h.len, Row.of_own h.own, fun k hk => ⟨Bytes.of_own (h.dat k hk).1, (h.dat k hk).2⟩⟩

theorem Bld.ext {w w' : World} {g n c m : Nat} {a : Option Addr} {L : List Od} (h : Bld w g a n c L m) (hx : Ext w w') : Bld w' g a n c L m where
  box := hx.heap' h.box
  len := h.len
  own := own_ext h.own hx
  gm := h.gm
  mh := Nat.le_trans h.mh hx.size
  dat y hy := ⟨own_ext (h.dat y hy).1 hx, (h.dat y hy).2⟩
  low := h.low
  last y hy := own_ext (h.last y hy) hx
theorem od_length (L : List Od) : (L.flatMap Od.cells).length = L.length * 3 := by
  induction L with
  | nil => rfl
  | cons x L ih => rw [List.flatMap_cons, List.length_append, ih, List.length_cons]; simp [Od.cells]; omega
/-- A builder but for its last op's data. -/
structure BldL (w : World) (g : Nat) (a : Option Addr) (n c : Nat) (L0 : List Od) (y : Od) (m : Nat) : Prop where
  box : w.heap[g]? = some (.cells #[.slice a n c] 71 (0, 0))
  len : L0.length + 1 = n
  own : w.ownsRow (g + 1) 83 3 (.slice a n c) n ((L0 ++ [y]).flatMap Od.cells)
  gm : g < m
  mh : m ≤ w.heap.size
  dat : ∀ y ∈ L0, w.ownsRow (g + 1) 5 1 (.slice y.a y.n y.c) y.n (y.l.map u8) ∧ y.n ≤ 140737488355328 ∧ i64B y.f ∧ i64B y.z
  low : ∀ y ∈ L0, ∀ k, blockOf y.a = some k → k < m
theorem Bld.toL {w : World} {g n c m : Nat} {a : Option Addr} {L0 : List Od} {y : Od} (h : Bld w g a n c (L0 ++ [y]) m) : BldL w g a n c L0 y m where
  box := h.box
  len := by have := h.len; rw [List.length_append, List.length_singleton] at this; exact this
  own := h.own
  gm := h.gm
  mh := h.mh
  dat k hk := h.dat k (List.mem_append_left _ hk)
  low k hk := h.low k (by rw [List.dropLast_concat]; exact hk)
theorem BldL.grown {w w' : World} {g n c m : Nat} {a : Option Addr} {L0 : List Od} {y : Od} {o : Option Nat} (h : BldL w g a n c L0 y m) (hg : w.grownBy w' o) (ho : ∀ k, o = some k → m ≤ k ∧ some k ≠ blockOf a) : BldL w' g a n c L0 y m := by
  cases o with
  | none =>
    have hx := Ext.of_grown hg
    exact ⟨hx.heap' h.box, h.len, own_ext h.own hx, h.gm, Nat.le_trans h.mh hx.size, fun k hk => ⟨own_ext (h.dat k hk).1 hx, (h.dat k hk).2⟩, h.low⟩
  | some b =>
    obtain ⟨hb, hna⟩ := ho b rfl
    have hgm := h.gm
    exact ⟨by rw [hg.block g (Nat.lt_of_lt_of_le h.gm h.mh) (fun e => by cases e; omega)]; exact h.box, h.len, own_other h.own hg (fun e => hna e.symm), h.gm, Nat.le_trans h.mh hg.size,
      fun k hk => ⟨own_other (h.dat k hk).1 hg (fun e => by have := h.low k hk b e; omega), (h.dat k hk).2⟩, h.low⟩
theorem BldL.at_ {w : World} {g n c m A : Nat} {L0 : List Od} {y : Od} (h : BldL w g (some ⟨A, 0, none⟩) n c L0 y m) : n = L0.length + 1 ∧ g < A ∧ ∀ w' j, Ext w w' → j < 3 → w'.cell? ⟨A, (n - 1) * 3 + j, none⟩ = y.cells[j]? := by
  have hln := h.len
  refine ⟨hln.symm, (own_block (k := A) h.own rfl).1, fun w' j hx hj => ?_⟩
  have := ((Row.of_own h.own).ext hx).cell _ rfl ((n - 1) * 3 + j)
  have hg := od_get (L := L0 ++ [y]) (i := n - 1) (k := y) (by rw [show n - 1 = L0.length by omega]; simp) j hj
  obtain ⟨v, hv⟩ : ∃ v, y.cells[j]? = some v := ⟨_, List.getElem?_eq_getElem (by simp [Od.cells]; omega)⟩
  rw [hv] at hg ⊢
  have := this _ hg
  rw [Addr.add_lit, Nat.zero_add] at this
  exact this
theorem Bld.at_last {w : World} {g n c m A : Nat} {L0 : List Od} {y : Od} (h : Bld w g (some ⟨A, 0, none⟩) n c (L0 ++ [y]) m) : n = L0.length + 1 ∧ g < A ∧ ∀ w' j, Ext w w' → j < 3 → w'.cell? ⟨A, (n - 1) * 3 + j, none⟩ = y.cells[j]? := h.toL.at_
theorem BldL.setLast {w : World} {g n c m A i : Nat} {L0 : List Od} {y y' : Od} {v : Value} (h : BldL w g (some ⟨A, 0, none⟩) n c L0 y m) (hi : i < 3) (hc : y'.cells = y.cells.set i v)
    (hd : w.ownsRow m 5 1 (.slice y'.a y'.n y'.c) y'.n (y'.l.map u8) ∧ y'.n ≤ 140737488355328 ∧ i64B y'.f ∧ i64B y'.z) :
    Bld (w.setCell ⟨A, (n - 1) * 3 + i, none⟩ v) g (some ⟨A, 0, none⟩) n c (L0 ++ [y']) m := by
  obtain ⟨hn, hA, -⟩ := h.at_
  have hg := grown_setCell' w A ((n - 1) * 3 + i) v
  obtain ⟨cur, hcur⟩ := own_heap h.own (b := A) rfl
  have hap : ∀ {B n' c' : Nat} {a' : Option Addr} {xs : List Value}, w.ownsRow B 5 1 (.slice a' n' c') n' xs → (w.setCell ⟨A, (n - 1) * 3 + i, none⟩ v).ownsRow B 5 1 (.slice a' n' c') n' xs := fun ho => own_other ho hg (fun e => own_apart ho hcur (by decide) e.symm)
  refine ⟨?_, by rw [List.length_append, List.length_singleton, hn], ?_, h.gm, Nat.le_trans h.mh hg.size, ?_, ?_, ?_⟩
  · rw [hg.block g (Nat.lt_of_lt_of_le h.gm h.mh) (fun e => by cases e; omega)]; exact h.box
  · have := own_setCell (v := v) h.own (j := (n - 1) * 3 + i) (by omega)
    rw [List.flatMap_append, List.flatMap_cons, List.flatMap_nil, List.append_nil] at this ⊢
    rw [List.set_append_right _ _ (by rw [od_length]; omega), od_length, show (n - 1) * 3 + i - L0.length * 3 = i by omega, ← hc] at this
    exact this
  · intro k hk
    rcases List.mem_append.1 hk with hk | hk
    · have := h.dat k hk
      exact ⟨hap this.1, this.2⟩
    · obtain rfl : k = y' := by simpa using hk
      exact ⟨hap (own_base hd.1 h.gm), hd.2⟩
  · intro k hk
    rw [List.dropLast_concat] at hk
    exact h.low k hk
  · intro k hk
    rw [List.getLast?_concat, Option.some.injEq] at hk
    subst hk
    exact hap hd.1
theorem Bld.setLast {w : World} {g n c m A i : Nat} {L0 : List Od} {y y' : Od} {v : Value} (h : Bld w g (some ⟨A, 0, none⟩) n c (L0 ++ [y]) m) (hi : i < 3) (hc : y'.cells = y.cells.set i v)
    (hd : w.ownsRow m 5 1 (.slice y'.a y'.n y'.c) y'.n (y'.l.map u8) ∧ y'.n ≤ 140737488355328 ∧ i64B y'.f ∧ i64B y'.z) :
    Bld (w.setCell ⟨A, (n - 1) * 3 + i, none⟩ v) g (some ⟨A, 0, none⟩) n c (L0 ++ [y']) m := h.toL.setLast hi hc hd
/-- A new op behind a builder's ops. -/
theorem Bld.push {w w' : World} {g n c m : Nat} {a a' : Option Addr} {c' : Nat} {L : List Od} {y : Od} (h : Bld w g a n c L m) (hg : w.grownBy w' (blockOf a)) (ho : w'.ownsRow (g + 1) 83 3 (.slice a' (n + 1) c') (n + 1) ((L ++ [y]).flatMap Od.cells))
    (hd : w'.ownsRow w.heap.size 5 1 (.slice y.a y.n y.c) y.n (y.l.map u8) ∧ y.n ≤ 140737488355328 ∧ i64B y.f ∧ i64B y.z) :
    Bld (w'.setCell ⟨g, 0, none⟩ (.slice a' (n + 1) c')) g a' (n + 1) c' (L ++ [y]) w.heap.size := by
  have hgs := grown_setCell' w' g 0 (.slice a' (n + 1) c')
  have hgw : g < w.heap.size := Nat.lt_of_lt_of_le h.gm h.mh
  have hga : blockOf a ≠ some g := fun e => own_apart h.own h.box (by decide) e.symm
  have hbox : w'.heap[g]? = some (.cells #[.slice a n c] 71 (0, 0)) := by rw [hg.block g hgw (fun e => hga e.symm)]; exact h.box
  have hk : ∀ {B e s n' c' : Nat} {a' : Option Addr} {xs : List Value}, w'.ownsRow B e s (.slice a' n' c') n' xs → g < B → ∀ v, (w'.setCell ⟨g, 0, none⟩ v).ownsRow B e s (.slice a' n' c') n' xs := fun ho hB v => own_kept ho (grown_setCell' w' g 0 v) hB
  have hold : ∀ x ∈ L, w'.ownsRow (g + 1) 5 1 (.slice x.a x.n x.c) x.n (x.l.map u8) := fun x hx => by
    have h1 := (h.dat x hx).1
    cases hb : blockOf a with
    | none => rw [hb] at hg; exact own_ext h1 (Ext.of_grown hg)
    | some b =>
      rw [hb] at hg
      obtain ⟨cur, hcur⟩ := own_heap h.own hb
      exact own_other h1 hg (fun e => own_apart h1 hcur (by decide) e.symm)
  refine ⟨?_, by rw [List.length_append, List.length_singleton, h.len], hk ho (Nat.lt_succ_self g) _, hgw, Nat.le_trans hg.size hgs.size, ?_, ?_, ?_⟩
  · simp [World.setCell, Array.getElem?_modify, hbox]
  · intro x hx
    rcases List.mem_append.1 hx with hx | hx
    · exact ⟨hk (hold x hx) (Nat.lt_succ_self g) _, (h.dat x hx).2⟩
    · obtain rfl : x = y := by simpa using hx
      exact ⟨hk (own_base hd.1 hgw) (Nat.lt_succ_self g) _, hd.2⟩
  · intro x hx k hk
    rw [List.dropLast_concat] at hx
    exact (own_block (h.dat x hx).1 k hk).2
  · intro x hx
    rw [List.getLast?_concat, Option.some.injEq] at hx
    subst hx
    exact hk hd.1 hgw _
/-- The address of the last op, or nil. -/
def LastP (a : Option Addr) (n : Nat) (p : Option Addr) : Prop := (n = 0 ∧ p = none) ∨ (0 < n ∧ ∃ A, a = some ⟨A, 0, none⟩ ∧ p = some ⟨A, (n - 1) * 3, none⟩)

set_option maxRecDepth 100000 in
set_option maxHeartbeats 4000000 in
theorem addCopy_any (g : Nat) (a : Option Addr) (n c : Nat) (L : List Od) (m : Nat) (f z : Int) (w : World) (hB : Bld w g a n c L m) (hn : n ≤ 1000000000) (hLf : ∀ y ∈ L, y.d.fine) (hLZ : ∀ y ∈ L, y.f + y.z ≤ 1000000000000)
    (hf : 0 ≤ f) (hz : 1 ≤ z) (hfz : f + z ≤ 1000000000000) :
    Calls Try.prog 44 #[.pointer (some ⟨g, 0, none⟩), .iface 73 (.agg #[.int .i64 f, .int .i64 z])] w (BldR w g (addD (L.map Od.d) ⟨f, z, []⟩)) := by
  obtain ⟨D, hD⟩ : ∃ D, D = addD (L.map Od.d) ⟨f, z, []⟩ := ⟨_, rfl⟩
  rw [← hD]
  have HD := Lib.hid hD
  clear hD
  have hbc := fun j => cell_of_row w g j _ _ _ hB.box
  have hbf := fun j => frozen_none hB.box j
  have TC := Try.ta.cc
  have hgw : g ≤ w.heap.size := Nat.le_of_lt (Nat.lt_of_lt_of_le hB.gm hB.mh)
  go_enter Try.func44, Try.ntmps44
  go_upto_if 12 with fail
  go_cut [4] from 12 (fun s4 w' => ∃ p, s4 = .pointer p ∧ LastP a n p ∧ Ext w w')
  case first =>
    by_cases h0 : 0 < n
    rotate_left
    · have hd : decide ((0 : Int) < n) = false := decide_eq_false (by omega)
      go_wp2
      go_meet
      exact ⟨none, rfl, .inl ⟨by omega, rfl⟩, Below.refl _ _⟩
    · have hd : decide ((0 : Int) < n) = true := decide_eq_true (by omega)
      obtain ⟨A, cur, rfl, hA, hcur, -, -⟩ := own_some hB.own h0
      have hwn : IntKind.i64.wrap ((n : Int) - 1) = ((n - 1 : Nat) : Int) := by rw [IntKind.wrap_i64]; omega
      have hAk : ∀ w' j, Ext w w' → w'.cell? ⟨g, j, none⟩ = #[.slice (some ⟨A, 0, none⟩) n c][j]? := fun w' j hx => cell_of_row _ _ _ _ _ _ (hx.heap' hB.box)
      clear hcur
      go_wp2
      refine wp_region_e [] (.qs [0, 1, 2, 3, 4, 5, 6, 7, 8, 9, 10, 11] .nil) (by kernel_rfl) (by kernel_rfl) ?_
      iterate 10 ((refine wpY_q rfl rfl _ (fun w' hx' => by go_simp; try rfl) ?_; go_simp))
      refine wpY_ixp rfl rfl (.tmp 16) (.tmp 22) rfl Try.elO rfl (n - 1) rfl rfl (by omega) ?_
      ((refine wpY_q rfl rfl _ (fun w' hx' => by go_simp; try rfl) ?_; go_simp))
      refine wpY_nil ?_
      clear hAk hwn
      go_wp2
      go_meet
      exact ⟨_, rfl, .inr ⟨h0, A, rfl, rfl⟩, Ext.drew' _⟩
  case rest =>
    obtain ⟨p, rfl, hp, hx1⟩ := hcut
    rename World => w1
    have hB1 := hB.ext hx1
    clear hbc hbf hB
    have hx2 := Ext.alloc' w1 (.cells #[.int .i64 f, .int .i64 z] 73)
    go_upto_region 6 with fail
    go_cut [50] from 28 (fun s50 w' => ∃ q, s50 = .bool q ∧ (q = true → ∃ L0 y A, L = L0 ++ [y] ∧ 0 < y.z ∧ y.f + y.z = f ∧ a = some ⟨A, 0, none⟩ ∧ p = some ⟨A, (n - 1) * 3, none⟩) ∧ (q = false → D = L.map Od.d ++ [⟨f, z, []⟩]) ∧ Ext w1 w' ∧ w'.heap[w1.heap.size]? = some (.cells #[.int .i64 f, .int .i64 z] 73 (0, 0)))
    case first =>
      have hbw := heap_alloc_new w1 (.cells #[.int .i64 f, .int .i64 z] 73)
      rcases hp with ⟨h0, rfl⟩ | ⟨h0, A, rfl, rfl⟩
      · have hL0 : L = [] := List.eq_nil_of_length_eq_zero (by rw [hB1.len, h0])
        have HL0 := Lib.hid hL0
        clear hbw hL0 h0
        refine wp_region_e [] (.qs [0, 1, 2, 3, 4, 5, 6, 7, 8, 9, 10, 11, 12, 13, 14, 15, 16, 17, 18, 19, 20, 21, 22] .nil) (by kernel_rfl) (by kernel_rfl) ?_
        iterate 23 (first | ((refine wpY_q rfl rfl _ (fun w' hx' => by go_simp; try rfl) ?_; go_simp)) | ((refine wpY_skip rfl rfl ?_; go_simp)))
        refine wpY_nil ?_
        go_wp2
        go_meet
        exact ⟨false, rfl, (fun h => by cases h), (fun _ => by rw [HD.out, HL0.out]; exact addD_nil _ (.inl ⟨by simp [Dp.copies]; omega, hf⟩)), hx2.trans' (Ext.drew' _), (Ext.drew' _).heap' (heap_alloc_new w1 _)⟩
      · obtain ⟨L0, y, rfl⟩ : ∃ L0 y, L = L0 ++ [y] := by
          rcases List.eq_nil_or_concat L with h | ⟨A, y, h⟩
          · have := hB1.len; rw [h] at this; simp at this; omega
          · exact ⟨A, y, by simpa using h⟩
        have hln := hB1.len
        rw [List.length_append, List.length_singleton] at hln
        have hyf := hLf y (by simp)
        have hyZ := hLZ y (by simp)
        obtain ⟨-, -, hyF, hyS⟩ := hB1.dat y (by simp)
        unfold i64B at hyF hyS
        have hyn0 : 0 ≤ y.f ∧ 0 ≤ y.z := by rcases hyf.nice with ⟨h1, h2, -⟩ | ⟨h1, h2, -⟩ <;> (simp only [Od.d] at h1 h2; omega)
        obtain ⟨hyf0, hyz0⟩ := hyn0
        have hr := Row.of_own hB1.own
        have hce : ∀ w' j, Ext w1 w' → j < 3 → w'.cell? ⟨A, (n - 1) * 3 + j, none⟩ = y.cells[j]? := fun w' j hx hj => by
          have := (hr.ext hx).cell _ rfl ((n - 1) * 3 + j)
          have hg := od_get (L := L0 ++ [y]) (i := n - 1) (k := y) (by rw [show n - 1 = L0.length by omega]; simp) j hj
          obtain ⟨v, hv⟩ : ∃ v, y.cells[j]? = some v := ⟨_, List.getElem?_eq_getElem (by simp [Od.cells]; omega)⟩
          rw [hv] at hg ⊢
          have := this _ hg
          rw [Addr.add_lit, Nat.zero_add] at this
          exact this
        have hc0 : ∀ w', Ext w1 w' → w'.cell? ⟨A, (n - 1) * 3, none⟩ = some (.int .i64 y.f) := fun w' hx => hce w' 0 hx (by omega)
        have hc1 : ∀ w', Ext w1 w' → w'.cell? ⟨A, (n - 1) * 3 + 1, none⟩ = some (.int .i64 y.z) := fun w' hx => hce w' 1 hx (by omega)
        have hbk : ∀ w' j, Ext (w1.alloc (.cells #[.int .i64 f, .int .i64 z] 73)) w' → w'.cell? ⟨w1.heap.size, j, none⟩ = #[.int .i64 f, .int .i64 z][j]? := fun w' j hx => cell_of_row _ _ _ _ _ _ (hx.heap' hbw)
        have hc0' : ∀ w', Ext (w1.alloc (.cells #[.int .i64 f, .int .i64 z] 73)) w' → w'.cell? ⟨A, (n - 1) * 3, none⟩ = some (.int .i64 y.f) := fun w' hx => hc0 w' (hx2.trans' hx)
        have hc1' : ∀ w', Ext (w1.alloc (.cells #[.int .i64 f, .int .i64 z] 73)) w' → w'.cell? ⟨A, (n - 1) * 3 + 1, none⟩ = some (.int .i64 y.z) := fun w' hx => hc1 w' (hx2.trans' hx)
        have HLN := Lib.hid hln
        have HYF := Lib.hid hyf
        have hwz : IntKind.i64.wrap (y.f + y.z) = y.f + y.z := by rw [IntKind.wrap_i64]; omega
        have HBW := Lib.hid hbw
        clear hbw hln hyf hc0 hc1 hce hr
        generalize w1.alloc (.cells #[.int .i64 f, .int .i64 z] 73) = w2 at hbk hc0' hc1' hx2 HBW ⊢
        have hend := (Ext.drew' w2).heap' HBW.out
        have HEND := Lib.hid hend
        clear hend
        by_cases hyz : 0 < y.z
        · have hd : decide ((0 : Int) < y.z) = true := decide_eq_true hyz
          by_cases hj : y.f + y.z = f
          · obtain ⟨q1, q2⟩ := eqI hj
            have HJ := Lib.hid hj
            clear hj
            refine wp_region_e [] (.qs [0, 1, 2, 3, 4, 5, 6, 7, 8, 9, 10, 11, 12, 13, 14, 15, 16, 17, 18, 19, 20, 21, 22] .nil) (by kernel_rfl) (by kernel_rfl) ?_
            iterate 23 (first | ((refine wpY_q rfl rfl _ (fun w' hx' => by go_simp; try rfl) ?_; go_simp)) | ((refine wpY_skip rfl rfl ?_; go_simp)))
            refine wpY_nil ?_
            clear hbk hc0' hc1' hwz hd q1 q2
            go_wp2
            go_meet
            exact ⟨true, rfl, (fun _ => ⟨L0, y, A, rfl, hyz, HJ.out, rfl, rfl⟩), (fun h => by cases h), hx2.trans' (Ext.drew' _), HEND.out⟩
          · obtain ⟨q1, q2⟩ := neI hj
            have HJ := Lib.hid hj
            clear hj
            refine wp_region_e [] (.qs [0, 1, 2, 3, 4, 5, 6, 7, 8, 9, 10, 11, 12, 13, 14, 15, 16, 17, 18, 19, 20, 21, 22] .nil) (by kernel_rfl) (by kernel_rfl) ?_
            iterate 23 (first | ((refine wpY_q rfl rfl _ (fun w' hx' => by go_simp; try rfl) ?_; go_simp)) | ((refine wpY_skip rfl rfl ?_; go_simp)))
            refine wpY_nil ?_
            clear hbk hc0' hc1' hwz hd q1 q2
            go_wp2
            go_meet
            exact ⟨false, rfl, (fun h => by cases h), (fun _ => by rw [HD.out, List.map_append]; exact addD_new HYF.out (.inl ⟨by simp [Dp.copies]; omega, hf⟩) (fun h => by simp [Dp.literal] at h) (fun h => HJ.out h.2.2)), hx2.trans' (Ext.drew' _), HEND.out⟩
        · have hd : decide ((0 : Int) < y.z) = false := decide_eq_false hyz
          refine wp_region_e [] (.qs [0, 1, 2, 3, 4, 5, 6, 7, 8, 9, 10, 11, 12, 13, 14, 15, 16, 17, 18, 19, 20, 21, 22] .nil) (by kernel_rfl) (by kernel_rfl) ?_
          iterate 23 (first | ((refine wpY_q rfl rfl _ (fun w' hx' => by go_simp; try rfl) ?_; go_simp)) | ((refine wpY_skip rfl rfl ?_; go_simp)))
          refine wpY_nil ?_
          clear hbk hc0' hc1' hwz hd
          go_wp2
          go_meet
          exact ⟨false, rfl, (fun h => by cases h), (fun _ => by rw [HD.out, List.map_append]; exact addD_new HYF.out (.inl ⟨by simp [Dp.copies]; omega, hf⟩) (fun h => by simp [Dp.literal] at h) (fun h => by have h1 := h.1; simp only [Dp.copies, Bool.and_eq_true, decide_eq_true_eq] at h1; have h2 : (1 : Int) ≤ y.z := h1.1; omega)), hx2.trans' (Ext.drew' _), HEND.out⟩
    case rest =>
      obtain ⟨q, rfl, hq1, hq2, hx3, hbx⟩ := hcut
      rename World => w3
      have hB3 := hB1.ext hx3
      have hbk : ∀ w' j, Ext w3 w' → w'.cell? ⟨w1.heap.size, j, none⟩ = #[.int .i64 f, .int .i64 z][j]? := fun w' j hx => cell_of_row _ _ _ _ _ _ (hx.heap' hbx)
      have hgk : ∀ w' j, Ext w3 w' → w'.cell? ⟨g, j, none⟩ = #[.slice a n c][j]? := fun w' j hx => cell_of_row _ _ _ _ _ _ (hx.heap' hB3.box)
      clear hx2
      cases q with
      | true =>
        obtain ⟨L0, y, A, rfl, hyz, hj, rfl, rfl⟩ := hq1 rfl
        clear hq1 hq2
        have HJ := Lib.hid hj
        obtain ⟨hnl, hgA, hce⟩ := hB3.at_last
        have hyZ := hLZ y (by simp)
        obtain ⟨-, -, hyF, hyS⟩ := hB3.dat y (by simp)
        unfold i64B at hyF hyS
        have hc1 : ∀ w', Ext w3 w' → w'.cell? ⟨A, (n - 1) * 3 + 1, none⟩ = some (.int .i64 y.z) := fun w' hx => hce w' 1 hx (by omega)
        have hyf := hLf y (by simp)
        have hyn0 : 0 ≤ y.f ∧ 0 ≤ y.z := by rcases hyf.nice with ⟨h1, h2, -⟩ | ⟨h1, h2, -⟩ <;> (simp only [Od.d] at h1 h2; omega)
        obtain ⟨hyf0, hyz0⟩ := hyn0
        have hwz : IntKind.i64.wrap (y.z + z) = y.z + z := by rw [IntKind.wrap_i64]; omega
        have HNL := Lib.hid hnl
        have HYF := Lib.hid hyf
        clear hj hce hnl hyf
        go_wp2
        refine wp_region_e [7, 8, 9] (.qs [0, 1, 2, 3, 4, 5, 6] (.l 7 (.l 8 (.l 9 .nil)))) (by kernel_rfl) (by kernel_rfl) ?_
        iterate 7 ((refine wpY_q rfl rfl _ (fun w' hx' => by go_simp; try rfl) ?_; go_simp))
        refine wpY_l rfl rfl ?_
        go_simp
        refine wpY_l rfl rfl ?_
        go_simp
        refine wpY_l rfl rfl (owp_st1 3 _ _ rfl A ((n - 1) * 3 + 1) (.int .i64 (y.z + z)) rfl rfl rfl ?_ (by kernel_rfl) rfl ?_)
        · exact own_there (own_ext hB3.own (Ext.drew' _)) (by have := HNL.out; omega)
        · refine ⟨(fun h => by cases h), wpY_nil ?_⟩
          clear hbk hgk hc1 hwz
          go_wp2
          (try simp only [Exit.inBlock, Exit.then]); refine bodyPost_ret (results_none rfl _ _ _) rfl ?_
          have hyc : y.d.copies = true := by
            rcases HYF.out with h | h
            · exact h.1
            · simp only [Dp.literal, Bool.and_eq_true, decide_eq_true_eq] at h
              have h2 : y.z = 0 := by simpa [Od.d] using h.1.1
              omega
          have hyl : y.l = [] := by
            simp only [Dp.copies, Bool.and_eq_true, decide_eq_true_eq, List.isEmpty_iff] at hyc
            exact hyc.2
          have hB4 := (hB3.ext (Ext.drew' _)).setLast (i := 1) (y' := ⟨y.f, y.z + z, y.a, y.n, y.c, y.l⟩) (v := .int .i64 (y.z + z)) (by omega) rfl ⟨own_ext (hB3.last y (by rw [List.getLast?_concat])) (Ext.drew' _), (hB3.dat y (by simp)).2.1, by unfold i64B; show -9223372036854775808 ≤ y.f ∧ y.f ≤ _; omega, by unfold i64B; show -9223372036854775808 ≤ y.z + z ∧ y.z + z ≤ _; omega⟩
          have hgh : g ≤ w.heap.size := hgw
          exact ⟨rfl, (((hx1.trans' hx3).mono hgh).trans ((Below.refl g w3).drew.setCell (p := ⟨A, (n - 1) * 3 + 1, none⟩) (by show g ≤ A; omega) _)), ((KeepB.of_ext ((hx1.trans' hx3).trans' (Ext.drew' _))).grown (grown_setCell' _ _ _ _) (fun k hk => by cases hk; obtain ⟨cur, hcur⟩ := own_heap (own_ext hB3.own (Ext.drew' _)) (b := A) rfl; exact ⟨cur, _, hcur, .inr (.inl rfl)⟩)), _, _, _, _, _, hB4, by rw [HD.out, List.map_append, List.map_append]; exact (by rw [show ([y].map Od.d) = [y.d] from rfl, addD_copy (o := ⟨f, z, []⟩) hyc (by simp [Dp.copies]; omega) HJ.out]; simp [Od.d, hyl])⟩
      | false =>
        have HQ := Lib.hid (hq2 rfl)
        clear hq1 hq2
        have hgb : g < w3.heap.size := Nat.lt_of_lt_of_le hB3.gm hB3.mh
        have hbb : w1.heap.size < w3.heap.size := (Array.getElem?_eq_some_iff.1 hbx).1
        go_wp2
        have hap : ∀ (k : Nat) (cs : Array Value) (t : TypeId), w3.heap[k]? = some (.cells cs t (0, 0)) → t ≠ 83 → ∀ w', w3.grownBy w' (blockOf a) → w'.heap[k]? = some (.cells cs t (0, 0)) := fun k cs t hk ht w' hg => by
          rw [hg.block k ((Array.getElem?_eq_some_iff.1 hk).1) (own_apart hB3.own hk ht)]; exact hk
        have hgk : ∀ w' j, w3.grownBy w' (blockOf a) → w'.cell? ⟨g, j, none⟩ = #[.slice a n c][j]? := fun w' j hx => cell_of_row _ _ _ _ _ _ (hap _ _ _ hB3.box (by decide) w' hx)
        have hbk : ∀ w' j, w3.grownBy w' (blockOf a) → w'.cell? ⟨w1.heap.size, j, none⟩ = #[.int .i64 f, .int .i64 z][j]? := fun w' j hx => cell_of_row _ _ _ _ _ _ (hap _ _ _ hbx (by decide) w' hx)
        have HAP := Lib.hid hap
        clear hap
        refine wp_region_z (fun w' => w3.grownBy w' (blockOf a)) (grown_drewO w3 _) [12, 13, 14] (.qs [0, 1, 2, 3, 4, 5, 6, 7, 8, 9] (.l 10 (.l 11 (.l 12 (.l 13 (.l 14 .nil)))))) (by kernel_rfl) (by kernel_rfl) ?_
        iterate 10 ((refine wpZ_q rfl rfl _ (fun w' hx' => by go_simp; try rfl) ?_; go_simp))
        refine wpZ_l rfl rfl ?_
        go_simp
        have E4 : Ext w3 (w3.alloc (.cells #[.int .i64 f, .int .i64 z, .slice none 0 0] 83)).drew := (Ext.alloc' w3 _).trans' (Ext.drew' _)
        have hrow := (Row.new w3 #[.int .i64 f, .int .i64 z, .slice none 0 0] 83 1 3 rfl (by decide)).ext (Ext.drew' _)
        refine ⟨⟨E4.os, E4.tape, E4.output, E4.size, fun k hk _ => E4.block k hk⟩, ?_⟩
        generalize (w3.alloc (.cells #[.int .i64 f, .int .i64 z, .slice none 0 0] 83)).drew = w4 at E4 hrow ⊢
        refine wpZ_l rfl rfl (owp_app _ _ rfl Try.elO rfl (own_ext hB3.own E4) rfl hrow (fun u hu => od_oneCell [⟨f, z, none, 0, 0, []⟩] u (by simpa [Od.cells] using hu)) (by omega) (by unfold maxLen; omega) (by have := E4.size; omega) ?_)
        intro a5 c5 w5 ho5 hg5
        have hg35 : w3.grownBy w5 (blockOf a) := ⟨hg5.os.trans E4.os, hg5.tape.trans E4.tape, hg5.output.trans E4.output, Nat.le_trans E4.size hg5.size, fun k hk hka => (hg5.block k (Nat.lt_of_lt_of_le hk E4.size) hka).trans (E4.block k hk)⟩
        refine ⟨fun _ => hg35, ?_⟩
        go_simp
        refine wpZ_l rfl rfl ?_
        go_simp
        refine wpZ_l rfl rfl ?_
        go_simp
        have hb5 := HAP.out g _ _ hB3.box (by decide) w5 hg35
        refine wpZ_l rfl rfl (owp_st1 46 _ _ rfl g 0 (.slice a5 (n + 1) c5) rfl rfl rfl ?_ (by kernel_rfl) rfl ?_)
        · exact there_one (v := .slice a n c) (by rw [cell_of_row w5 g 0 _ _ _ hb5]; rfl) (frozen_none hb5 0)
        · refine ⟨(fun h => by cases h), wpZ_nil ?_⟩
          have hB6 := hB3.push (y := ⟨f, z, none, 0, 0, []⟩) hg35 (by rw [List.flatMap_append]; exact ho5) ⟨own_nil _ _ _ _, Nat.zero_le _, by unfold i64B; show -9223372036854775808 ≤ f ∧ f ≤ _; omega, by unfold i64B; show -9223372036854775808 ≤ z ∧ z ≤ _; omega⟩
          have HBX := Lib.hid hb5
          clear hbk hgk hb5
          refine bodyPost_end (results_none rfl _ _ _) rfl ?_
          refine ⟨rfl, ((((hx1.trans' hx3).mono hgw).grown hg35 (Nat.le_of_lt hgb) (fun k hk => Nat.le_of_lt (own_block hB3.own k hk).1)).setCell (p := ⟨g, 0, none⟩) (Nat.le_refl _) _), ((KeepB.of_ext (hx1.trans' hx3)).grown hg35 (fun k hk => by obtain ⟨cur, hcur⟩ := own_heap hB3.own hk; exact ⟨cur, _, hcur, .inr (.inl rfl)⟩)).grown (grown_setCell' _ _ _ _) (fun k hk => by cases hk; exact ⟨_, _, HBX.out, .inl rfl⟩), _, _, _, _, _, hB6, ?_⟩
          rw [HQ.out, List.map_append]; rfl
end Go.Proofs.Ytkhjeeaojlaagaa
