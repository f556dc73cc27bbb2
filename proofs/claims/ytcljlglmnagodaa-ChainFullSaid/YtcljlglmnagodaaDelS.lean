/-
  Deltas with a fault, off the tape.
-/
import Derived.Test.YtcljlglmnagodaaDelR
namespace Go.Proofs.Ytcljlglmnagodaa
open Go.RowKit

theorem flat_set_all {y : Od} : ∀ {L : List Od} {i : Nat}, i < L.length → (L.flatMap Od.cells).take (i * 3) ++ y.cells ++ (L.flatMap Od.cells).drop (i * 3 + 3) = (L.set i y).flatMap Od.cells
  | [], _, h => by simp at h
  | x :: L, 0, _ => by
    rw [List.flatMap_cons, Nat.zero_mul, Nat.zero_add, List.take_zero, List.nil_append, List.set_cons_zero, List.flatMap_cons, List.drop_append, List.drop_of_length_le (show x.cells.length ≤ 3 from Nat.le_refl _), List.nil_append, show x.cells.length = 3 from rfl]
    rfl
  | x :: L, i + 1, h => by
    have hc : x.cells.length = 3 := rfl
    rw [List.flatMap_cons, List.set_cons_succ, List.flatMap_cons, ← flat_set_all (by simpa using h), List.take_append, List.drop_append, List.take_of_length_le (by omega), List.drop_of_length_le (by omega), hc, List.nil_append,
      show (i + 1) * 3 - 3 = i * 3 by omega, show (i + 1) * 3 + 3 - 3 = i * 3 + 3 by omega]
    simp
theorem flat_set_one {y : Od} {v : Value} {j : Nat} : ∀ {L : List Od} {i : Nat} {x : Od}, L[i]? = some x → j < 3 → y.cells = x.cells.set j v → (L.flatMap Od.cells).set (i * 3 + j) v = (L.set i y).flatMap Od.cells
  | [], _, _, h, _, _ => by cases h
  | x :: L, 0, x', h, hj, hy => by
    have : x = x' := by simpa using h
    subst this
    rw [List.flatMap_cons, Nat.zero_mul, Nat.zero_add, List.set_cons_zero, List.flatMap_cons, hy, List.set_append_left _ _ (by show j < 3; exact hj)]
  | x :: L, i + 1, x', h, hj, hy => by
    have hc : x.cells.length = 3 := rfl
    rw [List.flatMap_cons, List.set_cons_succ, List.flatMap_cons, ← flat_set_one (by simpa using h) hj hy, List.set_append_right _ _ (by omega), hc, show (i + 1) * 3 + j - 3 = i * 3 + j by omega]
theorem OwnOps.data {w w' : World} {B n c A : Nat} {L : List Od} (h : OwnOps w B (some ⟨A, 0, none⟩) n c L) (hg : w.grownBy w' (some A)) {n1 c1 : Nat} {a1 : Option Addr} {xs : List Value} (h1 : w.ownsRow B 5 1 (.slice a1 n1 c1) n1 xs) : w'.ownsRow B 5 1 (.slice a1 n1 c1) n1 xs := by
  obtain ⟨cur, hcur⟩ := own_heap h.own (b := A) rfl
  exact own_other h1 hg (fun e => own_apart h1 hcur (by decide) e.symm)
theorem OwnOps.set {w : World} {B n c A i : Nat} {L : List Od} {y : Od} (h : OwnOps w B (some ⟨A, 0, none⟩) n c L) (hi : i < n) (hd : w.ownsRow B 5 1 (.slice y.a y.n y.c) y.n (y.l.map u8) ∧ y.n ≤ 140737488355328 ∧ i64B y.f ∧ i64B y.z) :
    OwnOps (w.setCells A (i * 3) y.cells) B (some ⟨A, 0, none⟩) n c (L.set i y) where
  len := by rw [List.length_set]; exact h.len
  own := by
    rw [← flat_set_all (by rw [h.len]; exact hi)]
    exact own_setCells y.cells (i * 3) w _ h.own (by show i * 3 + 3 ≤ n * 3; omega)
  dat x hx := by
    have hg := grown_setCells A y.cells (i * 3) w
    rcases List.mem_or_eq_of_mem_set hx with hx | rfl
    · exact ⟨h.data hg (h.dat x hx).1, (h.dat x hx).2⟩
    · exact ⟨h.data hg hd.1, hd.2⟩
theorem OwnOps.set1 {w : World} {B n c A i j : Nat} {L : List Od} {x y : Od} {v : Value} (h : OwnOps w B (some ⟨A, 0, none⟩) n c L) (hx : L[i]? = some x) (hj : j < 3) (hy : y.cells = x.cells.set j v) (hd : w.ownsRow B 5 1 (.slice y.a y.n y.c) y.n (y.l.map u8) ∧ y.n ≤ 140737488355328 ∧ i64B y.f ∧ i64B y.z) :
    OwnOps (w.setCell ⟨A, i * 3 + j, none⟩ v) B (some ⟨A, 0, none⟩) n c (L.set i y) where
  len := by rw [List.length_set]; exact h.len
  own := by
    have hi : i < n := by rw [← h.len]; exact (List.getElem?_eq_some_iff.1 hx).1
    rw [← flat_set_one hx hj hy]
    exact own_setCell h.own (by omega)
  dat z hz := by
    have hg := grown_setCell' w A (i * 3 + j) v
    rcases List.mem_or_eq_of_mem_set hz with hz | rfl
    · exact ⟨h.data hg (h.dat z hz).1, (h.dat z hz).2⟩
    · exact ⟨h.data hg hd.1, hd.2⟩
theorem owp_ixp3 {P : Program} {w : World} {o : Oper} {f : Act} {K : Act → World → Prop} {Q : Exit → Act → World → Prop} (xO iO : Operand) {t : TypeId}
    (ho : o.op = .indexAddr t xO iO) {e s b : Nat} {z : Value} (E : Elem P t e s b z) {g n c : Nat} (hx : f.eval xO = .slice (some ⟨g, 0, none⟩) n c)
    (i : Nat) {k : IntKind} {I : Int} (hi : f.eval iO = .int k I) (hI : I = (i : Int)) (hin : i < n)
    (hk : K (f.put o.dst (.pointer (some ⟨g, i * s, none⟩))) w) : o.wp P f w K Q := by
  subst hI
  have hrun := run_indexAt_slice (P := P) (w := w) t ⟨g, 0, none⟩ n c k (i : Int) E.und'
  rw [if_pos (by omega), E.size] at hrun
  simp only [Result.andThen, Int.toNat_natCast, Addr.add_lit, Nat.zero_add] at hrun
  unfold Oper.wp
  simp [execOp, ho, hx, hi, hrun, Result.andThen]
  exact hk
/-- Ops off the tape, of few bytes. -/
def FaultO (w : World) (g k : Nat) (e : Ending) (w' : World) : Prop :=
  ∃ (a : Option Addr) (m c k2 : Nat) (L : List Od), e = .returned (.slice a m c) ∧ OwnOps w' w.heap.size a m c L ∧ m ≤ 7 ∧ (∀ y ∈ L, y.n ≤ 4) ∧ Tape w' g k2 ∧ k2 ≤ k + 1010 ∧ w.grownBy w' (some g)
theorem few_set {L : List Od} {i : Nat} {y : Od} (h : ∀ y ∈ L, y.n ≤ 4) (hy : y.n ≤ 4) : ∀ z ∈ L.set i y, z.n ≤ 4 := fun z hz => by
  rcases List.mem_or_eq_of_mem_set hz with hz | rfl
  · exact h z hz
  · exact hy

set_option maxRecDepth 100000 in
set_option maxHeartbeats 4000000 in
theorem faulty_any (g k N : Nat) (w : World) (ht : Tape w g k) (hk : k ≤ 1000000000000) (hN : N ≤ 100000) :
    Calls Try.prog 31 #[.pointer (some ⟨g, 0, none⟩), .int .i64 N] w (FaultO w g k) := by
  have hgl := ht.lt
  go_enter Try.func31, Try.ntmps31
  go_wp2_with (first
    | (go_at_call 39; (with_reducible refine (made_any g k N _ ht (by omega) hN).mono ?_); rintro e w1 ⟨a, m, c, k1, L, rfl, hO, hm, hL, ht1, hk1, hg1⟩; refine Stop.of ?_)
    | fail)
  have hfew : ∀ y ∈ L, y.n ≤ 4 := fun y hy => (hL y hy).2.1
  have hLN := hO.len
  by_cases hm0 : m = 0
  · obtain ⟨q1, q2⟩ := eqI (x := (m : Int)) (y := 0) (by omega)
    clear hm0
    refine Stop.out ?_
    go_wp2
    go_ret
    exact ⟨a, m, c, k1, L, rfl, hO, by omega, hfew, ht1, by omega, hg1⟩
  obtain ⟨q1, q2⟩ := neI (x := (m : Int)) (y := 0) (by omega)
  have hm1 : 0 < m := by omega
  obtain ⟨A, cur, rfl, hA, hcur, -, -⟩ := own_some hO.own hm1
  have HLN := Lib.hid hLN
  have t1 : True := trivial
  clear hm0 hcur hLN
  refine Stop.out ?_
  go_wp2_with (first
    | (go_at_call 25; have _t := t1; (with_reducible refine (Next_any g k1 m _ ht1 (by omega) (by omega)).mono ?_); rintro e w2 ⟨i, rfl, hi, ht2, hg2⟩; clear t1)
    | (go_at_call 25; (with_reducible refine (Next_any g (k1 + 1) 8 _ ht2 (by omega) (by omega)).mono ?_); rintro e w3 ⟨u, rfl, hu, ht3, hg3⟩; refine Stop.of ?_)
    | fail)
  have hi' : i < m := by unfold Below1 at hi; omega
  have hg13 := grown_trans' hg2 hg3
  have hO3 := hO.kept hg13 hgl
  have hg03 := grown_trans' hg1 hg13
  obtain ⟨x, hx⟩ : ∃ x, L[i]? = some x := ⟨_, List.getElem?_eq_getElem (by have := HLN.out; omega)⟩
  have hxd := hO3.dat x (List.mem_of_getElem? hx)
  have hxf := hfew x (List.mem_of_getElem? hx)
  have HX := Lib.hid hx
  clear hi hu hg2 hg3 hg13 ht2 ht1 hO hx
  by_cases h0 : u = 0
  · obtain ⟨p1, p2⟩ := eqI (x := (u : Int)) (y := 0) (by omega)
    clear h0
    refine Stop.out ?_
    go_wp2_with (first
      | ((with_reducible refine atSlot 25 ?_); refine wpList_of_wp rfl (owp_ixp3 (o := ⟨some 25, _, _, _, _, _⟩) _ _ rfl Try.elO rfl i rfl rfl hi' ?_))
      | ((with_reducible refine atStore 25 ?_); refine wpList_store_mid rfl 39 _ _ rfl A (i * 3) #[.int .i64 0, .int .i64 0, .slice none 0 0] rfl rfl (own_there hO3.own (by simp; omega)) (by kernel_rfl) (by simp [Value.oneCell']) ?_)
      | fail)
    go_ret
    have hO4 := hO3.set (y := ⟨0, 0, none, 0, 0, []⟩) hi' ⟨own_nil _ _ _ _, Nat.zero_le _, (⟨by decide, by decide⟩ : i64B 0), (⟨by decide, by decide⟩ : i64B 0)⟩
    have hg4 := grown_setCells A [.int .i64 0, .int .i64 0, .slice none 0 0] (i * 3) w3
    exact ⟨_, m, c, _, _, rfl, hO4, by omega, few_set hfew (Nat.zero_le 4), ht3.grown hg4 (fun b hb => by cases hb; omega), by omega, chg_trans hg03 hg4 (fun b hb => by cases hb; exact .inl hA)⟩
  by_cases h1 : u = 1
  · obtain ⟨p1, p2⟩ := neI (x := (u : Int)) (y := 0) (by omega)
    obtain ⟨p3, p4⟩ := eqI (x := (u : Int)) (y := 1) (by omega)
    clear h0 h1
    refine Stop.out ?_
    go_wp2_with (first
      | ((with_reducible refine atSlot 32 ?_); refine wpList_of_wp rfl (owp_ixp3 (o := ⟨some 32, _, _, _, _, _⟩) _ _ rfl Try.elO rfl i rfl rfl hi' ?_))
      | ((with_reducible refine atStore 32 ?_); have hE4 := Ext.alloc' w3 (.cells #[.int .u8 0] 5); have hO4 := hO3.ext hE4; have hz4 : (w3.alloc (.cells #[.int .u8 0] 5)).ownsRow w.heap.size 5 1 (.slice (some ⟨w3.heap.size, 0, none⟩) 1 1) 1 (([0] : List UInt8).map Proofs.Ytcljlglmnagodaa.u8) := own_lit w3 #[.int .u8 0] w.heap.size 5 1 1 hg03.size (by decide) rfl; have ht4 := ht3.ext hE4; have hg04 := chg_trans hg03 (grown_ext hE4) (fun b hb => by cases hb); generalize w3.alloc (.cells #[.int .u8 0] 5) = w4 at hO4 hz4 ht4 hg04 ⊢; refine wpList_store_mid rfl 39 _ _ rfl A (i * 3) #[.int .i64 0, .int .i64 1, .slice (some ⟨w3.heap.size, 0, none⟩) 1 1] rfl rfl (own_there hO4.own (by simp; omega)) (by kernel_rfl) (by simp [Value.oneCell']) ?_)
      | fail)
    go_ret
    have hO5 := hO4.set (y := ⟨0, 1, some ⟨w3.heap.size, 0, none⟩, 1, 1, [0]⟩) hi' ⟨hz4, (by decide : 1 ≤ 140737488355328), (⟨by decide, by decide⟩ : i64B 0), (⟨by decide, by decide⟩ : i64B 1)⟩
    have hg5 := grown_setCells A [.int .i64 0, .int .i64 1, .slice (some ⟨w3.heap.size, 0, none⟩) 1 1] (i * 3) w4
    exact ⟨_, m, c, _, _, rfl, hO5, by omega, few_set hfew (by show 1 ≤ 4; decide), ht4.grown hg5 (fun b hb => by cases hb; omega), by omega, chg_trans hg04 hg5 (fun b hb => by cases hb; exact .inl hA)⟩
  by_cases h2 : u = 2
  · obtain ⟨p1, p2⟩ := neI (x := (u : Int)) (y := 0) (by omega)
    obtain ⟨p3, p4⟩ := neI (x := (u : Int)) (y := 1) (by omega)
    obtain ⟨p5, p6⟩ := eqI (x := (u : Int)) (y := 2) (by omega)
    have t1 : True := trivial
    clear h0 h1 h2
    refine Stop.out ?_
    go_wp2_with (first
      | (go_at_call 25; have _t := t1; (with_reducible refine (Next_any g (k1 + 1 + 1) 3 _ ht3 (by omega) (by omega)).mono ?_); rintro e w4 ⟨r, rfl, hr, ht4, hg4⟩; clear t1; have hr' : r ≤ 2 := (by unfold Below1 at hr; omega); clear hr)
      | (go_at_call 25; (with_reducible refine (Next_any g (k1 + 1 + 1 + 1) 3 _ ht4 (by omega) (by omega)).mono ?_); rintro e w5 ⟨s, rfl, hs, ht5, hg5⟩; have hs' : s ≤ 2 := (by unfold Below1 at hs; omega); clear hs; have hO5 := (hO3.kept hg4 hgl).kept hg5 hgl; have hg05 := grown_trans' (grown_trans' hg03 hg4) hg5)
      | ((with_reducible refine atSlot 45 ?_); refine wpList_of_wp rfl (owp_ixp3 (o := ⟨some 45, _, _, _, _, _⟩) _ _ rfl Try.elO rfl i rfl rfl hi' ?_))
      | ((with_reducible refine atStore 45 ?_); refine wpList_store_mid rfl 39 _ _ rfl A (i * 3) #[.int .i64 ((N : Int) - r + 1), .int .i64 s, .slice none 0 0] rfl rfl (own_there hO5.own (by simp; omega)) (by kernel_rfl) (by simp [Value.oneCell']) ?_)
      | fail)
    go_ret
    have hO6 := hO5.set (y := ⟨(N : Int) - r + 1, s, none, 0, 0, []⟩) hi' ⟨own_nil _ _ _ _, Nat.zero_le _, (⟨by omega, by omega⟩ : i64B ((N : Int) - r + 1)), (⟨by omega, by omega⟩ : i64B (s : Int))⟩
    have hg6 := grown_setCells A [.int .i64 ((N : Int) - r + 1), .int .i64 s, .slice none 0 0] (i * 3) w5
    exact ⟨_, m, c, _, _, rfl, hO6, by omega, few_set hfew (Nat.zero_le 4), ht5.grown hg6 (fun b hb => by cases hb; omega), by omega, chg_trans hg05 hg6 (fun b hb => by cases hb; exact .inl hA)⟩
  by_cases h3 : u = 3
  · obtain ⟨p1, p2⟩ := neI (x := (u : Int)) (y := 0) (by omega)
    obtain ⟨p3, p4⟩ := neI (x := (u : Int)) (y := 1) (by omega)
    obtain ⟨p5, p6⟩ := neI (x := (u : Int)) (y := 2) (by omega)
    obtain ⟨p7, p8⟩ := eqI (x := (u : Int)) (y := 3) (by omega)
    clear h0 h1 h2 h3
    refine Stop.out ?_
    go_wp2_with (first
      | ((with_reducible refine atSlot 50 ?_); refine wpList_of_wp rfl (owp_ixp3 (o := ⟨some 50, _, _, _, _, _⟩) _ _ rfl Try.elO rfl i rfl rfl hi' ?_))
      | ((with_reducible refine atStore 51 ?_); refine wpList_of_wp rfl (owp_st1 (o := ⟨none, _, _, _, _, _⟩) 3 _ _ rfl A (i * 3 + 0) (.int .i64 (-1)) rfl rfl rfl (own_there hO3.own (by omega)) (by kernel_rfl) rfl ?_))
      | fail)
    go_ret
    have hO4 := hO3.set1 (y := { x with f := -1 }) (v := .int .i64 (-1)) HX.out (by decide : 0 < 3) rfl ⟨hxd.1, hxd.2.1, (⟨by decide, by decide⟩ : i64B (-1)), hxd.2.2.2⟩
    have hg4 := grown_setCell' w3 A (i * 3 + 0) (.int .i64 (-1))
    exact ⟨_, m, c, _, _, rfl, hO4, by omega, few_set hfew hxf, ht3.grown hg4 (fun b hb => by cases hb; omega), by omega, chg_trans hg03 hg4 (fun b hb => by cases hb; exact .inl hA)⟩
  obtain ⟨p1, p2⟩ := neI (x := (u : Int)) (y := 0) (by omega)
  obtain ⟨p3, p4⟩ := neI (x := (u : Int)) (y := 1) (by omega)
  obtain ⟨p5, p6⟩ := neI (x := (u : Int)) (y := 2) (by omega)
  obtain ⟨p7, p8⟩ := neI (x := (u : Int)) (y := 3) (by omega)
  by_cases h4 : u = 4
  · obtain ⟨p9, p10⟩ := eqI (x := (u : Int)) (y := 4) (by omega)
    clear h0 h1 h2 h3 h4
    refine Stop.out ?_
    go_wp2_with (first
      | ((with_reducible refine atSlot 56 ?_); refine wpList_of_wp rfl (owp_ixp3 (o := ⟨some 56, _, _, _, _, _⟩) _ _ rfl Try.elO rfl i rfl rfl hi' ?_))
      | ((with_reducible refine atStore 57 ?_); refine wpList_of_wp rfl (owp_st1 (o := ⟨none, _, _, _, _, _⟩) 3 _ _ rfl A (i * 3 + 1) (.int .i64 (-1)) rfl rfl rfl (own_there hO3.own (by omega)) (by kernel_rfl) rfl ?_))
      | fail)
    go_ret
    have hO4 := hO3.set1 (y := { x with z := -1 }) (v := .int .i64 (-1)) HX.out (by decide : 1 < 3) rfl ⟨hxd.1, hxd.2.1, hxd.2.2.1, (⟨by decide, by decide⟩ : i64B (-1))⟩
    have hg4 := grown_setCell' w3 A (i * 3 + 1) (.int .i64 (-1))
    exact ⟨_, m, c, _, _, rfl, hO4, by omega, few_set hfew hxf, ht3.grown hg4 (fun b hb => by cases hb; omega), by omega, chg_trans hg03 hg4 (fun b hb => by cases hb; exact .inl hA)⟩
  · obtain ⟨p9, p10⟩ := neI (x := (u : Int)) (y := 4) (by omega)
    clear h0 h1 h2 h3 h4
    refine Stop.out ?_
    go_wp2
    go_ret
    exact ⟨_, m, c, _, _, rfl, hO3, by omega, hfew, ht3, by omega, hg03⟩
end Go.Proofs.Ytcljlglmnagodaa
