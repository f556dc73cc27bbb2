/-
  The reference's caches: Put. (Printed by refk.py.)
-/
import Derived.Test.YtpiodpljiklfkaaRefJ
import Derived.Test.YtpiodpljiklfkaaCacO
import Derived.Test.YtpiodpljiklfkaaBts
namespace Go.Proofs.Ytpiodpljiklfkaa
open Go.RowKit
/-- The first chunk without a pin goes, then as before. -/
theorem evF_first {room left : Nat} {x : En} {D : List En} (hx : x.p = 0) (h : room < left) : ∀ {A : List En}, (∀ y ∈ A, y.p ≠ 0) →
    evF room (A ++ x :: D) left = ((evF room (A ++ D) (left - x.l.length)).1, x :: (evF room (A ++ D) (left - x.l.length)).2)
  | [], _ => evF_go h hx
  | y :: A, hA => by
    have hy := hA y (List.mem_cons_self ..)
    rw [List.cons_append, evF_keep h hy, evF_first hx h (fun z hz => hA z (List.mem_cons_of_mem _ hz))]
    by_cases h2 : room < left - x.l.length
    · rw [List.cons_append, evF_keep h2 hy]
    · rw [evF_end (.inl (by omega)), evF_end (.inl (by omega))]
      rfl
theorem first_free : ∀ {E : List En}, pinF E < sizeF E → ∃ A x D, E = A ++ x :: D ∧ x.p = 0 ∧ ∀ y ∈ A, y.p ≠ 0
  | [], h => absurd h (Nat.lt_irrefl _)
  | y :: E, h => by
    by_cases hy : y.p = 0
    · exact ⟨[], y, E, rfl, hy, fun z hz => by cases hz⟩
    · simp only [pinF, sizeF] at h
      rw [if_pos (by omega)] at h
      obtain ⟨A, x, D, rfl, hx, hA⟩ := first_free (E := E) (by omega)
      exact ⟨y :: A, x, D, rfl, hx, fun z hz => by
        rcases List.mem_cons.1 hz with rfl | hz
        · exact hy
        · exact hA z hz⟩
/-- The first without a pin, in memory. -/
theorem re_free {L : List Re} (h : pinF (L.map Re.en) < sizeF (L.map Re.en)) : ∃ u y, L[u]? = some y ∧ y.p = 0 ∧ (∀ j < u, ∀ k, L[j]? = some k → 0 < k.p) ∧
    (∀ room left, room < left → evF room (L.map Re.en) left = ((evF room ((cutL L u).map Re.en) (left - y.l.length)).1, y.en :: (evF room ((cutL L u).map Re.en) (left - y.l.length)).2)) ∧
    sizeF ((cutL L u).map Re.en) + y.l.length = sizeF (L.map Re.en) ∧ pinF ((cutL L u).map Re.en) = pinF (L.map Re.en) := by
  obtain ⟨A, x, D, hE, hx, hA⟩ := first_free h
  have hu : (L.map Re.en)[A.length]? = some x := by rw [hE, List.getElem?_append_right (Nat.le_refl _), Nat.sub_self]; rfl
  rw [List.getElem?_map] at hu
  obtain ⟨y, hy, rfl⟩ := Option.map_eq_some_iff.1 hu
  have hcut : (cutL L A.length).map Re.en = A ++ D := by
    rw [cutL_en, hE, List.eraseIdx_append_of_length_le (Nat.le_refl _), Nat.sub_self]
    rfl
  refine ⟨A.length, y, hy, hx, fun j hj k hk => ?_, fun room left hl => ?_, ?_, ?_⟩
  · have h1 : (L.map Re.en)[j]? = some k.en := by rw [List.getElem?_map, hk]; rfl
    rw [hE, List.getElem?_append_left hj] at h1
    have := hA _ (List.mem_of_getElem? h1)
    have h2 : k.en.p = k.p := rfl
    omega
  · rw [hcut, hE]
    exact evF_first hx hl hA
  · rw [hcut, hE, sizeF_app, sizeF_app]
    simp only [sizeF]
    have h2 : y.en.l = y.l := rfl
    rw [h2]
    omega
  · rw [hcut, hE, pinF_app, pinF_app]
    simp only [pinF]
    rw [if_neg (by omega)]
    omega
/-- What the reference's Put answers. -/
def RPutO (w : World) (B room : Nat) (L0 : List Re) (r : List En × List (Nat × Int) × Int) (en : Ending) (w' : World) : Prop :=
  ∃ (a : Option Addr) (n c : Nat) (L : List Re) (ga : Option Addr) (gn gc : Nat), en = .returned (.tuple #[.agg #[.int .i64 room, .slice a n c], .slice ga gn gc, .int .i64 r.2.2]) ∧
    Rc w' B room a n c L ∧ L.map Re.en = r.1 ∧ gn = r.2.1.length ∧ w'.ownsRow w.heap.size 45 2 (.slice ga gn gc) gn (r.2.1.flatMap idCells) ∧ Ext w w' ∧ DatR w L0 L
def lenV : Value → Nat
  | .slice _ n _ => n
  | _ => 0
/-- Between two rounds. -/
def RpRel (w w2 : World) (B room ln n0 : Nat) (L0 : List Re) (E0 : List En) (out : Value) (wr : World) : Prop :=
  ∃ (a : Option Addr) (n c : Nat) (L : List Re) (ga : Option Addr) (gn gc : Nat) (G : List (Nat × Int)), out = .slice ga gn gc ∧ gn = G.length ∧ gn + n = n0 ∧
    wr.heap[w.heap.size]? = some (.cells #[.int .i64 room, .slice a n c] 28 (0, 0)) ∧ Rc wr B room a n c L ∧
    wr.ownsRow w2.heap.size 45 2 (.slice ga gn gc) gn (G.flatMap idCells) ∧
    pinF (L.map Re.en) = pinF E0 ∧ (evF room E0 (sizeF E0 + ln)).1 = (evF room (L.map Re.en) (sizeF (L.map Re.en) + ln)).1 ∧
    (evF room E0 (sizeF E0 + ln)).2.map En.id = G ++ (evF room (L.map Re.en) (sizeF (L.map Re.en) + ln)).2.map En.id ∧ Chg [w.heap.size] w2 wr ∧ (∀ k ∈ L, k ∈ L0)

def FrRel (w : World) (u : Nat) (i : Value) (wr : World) : Prop := ∃ j : Nat, i = .int .i64 j ∧ j ≤ u ∧ Ext w wr

set_option maxRecDepth 100000 in
set_option maxHeartbeats 16000000 in
theorem refPut38_any (B room : Nat) (a : Option Addr) (n c : Nat) (L : List Re) (s : Nat) (z : Int) (ba : Option Addr) (bn bc : Nat) (l : List UInt8) (w : World) (h : Rc w B room a n c L) (hB : B ≤ w.heap.size)
    (hb : Bytes w ba bn bc l) (hbn : bn ≤ 1048576) :
    Calls Try.prog 47 #[.agg #[.int .i64 room, .slice a n c], .agg #[.int .u64 s, .int .i64 z], .slice ba bn bc] w (RPutO w B room L (putC room (L.map Re.en) (s, z) l)) := by
  have hln := h.len
  have hfew := h.few
  have hbl := hb.len
  have HL := Lib.hid hln
  have HH := Lib.hid h
  have HBB := Lib.hid hB
  obtain ⟨hx1, hh1, hh2, hh3⟩ := boxed3_facts w room a n c s z
  have HX := Lib.hid hx1
  have HR := Lib.hid (h.ext hx1)
  have HB1 := Lib.hid (hb.ext hx1)
  have hz2 := hx1.size
  have HB0 := Lib.hid hb
  clear hln h hB hb
  by_cases h0 : bn = 0
  · have HV := Lib.hid (show putC room (L.map Re.en) (s, z) l = (L.map Re.en, [], 381) by unfold putC; rw [if_pos (.inl (by omega))])
    obtain ⟨q1, q2⟩ := eqI (x := (bn : Int)) (y := 0) (by omega)
    clear h0
    go_enter Try.func47, Try.ntmps47
    go_upto_region 1 with fail
    change Code.wp _ _ _ _ (boxed3 w room a n c s z)
    generalize boxed3 w room a n c s z = w2 at hx1 hh1 hh2 hh3 HX HR HB1 hz2 ⊢
    have HH1 := Lib.hid hh1
    have HH2 := Lib.hid hh2
    have HH3 := Lib.hid hh3
    clear hx1 hh1 hh2 hh3
    have E1 := Ext.drew' w2
    refine wp_region_e [] (.qs [0, 1, 2, 3, 4, 6] (.l 5 (.qs [7, 8] .nil))) (by kernel_rfl) (by kernel_rfl) ?_
    iterate 4 ((refine wpY_q rfl rfl _ (fun w' hx' => by go_simp; try rfl) ?_; go_simp))
    iterate 2 ((refine wpY_skip rfl rfl ?_; go_simp))
    refine wpY_lskip rfl rfl ?_
    go_simp
    iterate 2 (first | ((refine wpY_q rfl rfl _ (fun w' hx' => by go_simp; try rfl) ?_; go_simp)) | ((refine wpY_skip rfl rfl ?_; go_simp)))
    refine wpY_nil ?_
    have E3 := E1
    generalize w2.drew = w3 at E3 ⊢
    have hrg := range_of_heap2 (E3.heap' HH1.out)
    have hh3 := E3.heap' HH3.out
    have HF := Lib.hid (setRow_heap w3 (w.heap.size + 1 + 1) _ #[.int .i64 room, .slice a n c] _ _ hh3)
    have HXF := Lib.hid ((HX.out.trans' E3).setRow (g := w.heap.size + 1 + 1) (cs := #[.int .i64 room, .slice a n c]) (by omega))
    go_wp2_with (first
      | ((with_reducible refine atSlot 21 ?_); refine wpList_of_wp rfl (wp_load_mid (op := ⟨some 21, _, _, _, _, _⟩) 28 _ rfl w.heap.size 0 rfl [.int .i64 room, .slice a n c] _ hrg Try.underlying28 rfl (by kernel_rfl) ?_); clear hrg)
      | ((with_reducible refine atStore 6 ?_); refine wpList_of_wp rfl (wp_store_row (o := ⟨none, _, _, _, _, _⟩) _ _ _ rfl (w.heap.size + 1 + 1) #[.int .i64 room, .slice a n c] rfl rfl _ _ hh3 (by kernel_rfl) rfl (by simp [Value.oneCell']) ?_))
      | fail)
    refine bodyPost_ret (results_c2 (ty := 28) rfl _ (w.heap.size + 1 + 1) [.int .i64 room, .slice a n c] _ rfl (range_of_heap2 HF.out) Try.underlying28 rfl (by kernel_rfl)) rfl ?_
    rw [HV.out]
    exact ⟨a, n, c, L, none, 0, 0, rfl, HH.out.ext HXF.out, rfl, rfl, own_nil _ _ _ _, HXF.out, fun k hk => .inl hk⟩
  obtain ⟨q1, q2⟩ := neI (x := (bn : Int)) (y := 0) (by omega)
  have hbp : 0 < bn := by omega
  by_cases he : idOf l = (s, z)
  rotate_left
  · have HV := Lib.hid (show putC room (L.map Re.en) (s, z) l = (L.map Re.en, [], 381) by unfold putC; rw [if_pos (.inr he)])
    have hor : ((fp l : Int) == (s : Int)) = false ∨ ((fp l : Int) == (s : Int)) = true ∧ ((bn : Int) == z) = false := by
      by_cases h1 : fp l = s
      · refine .inr ⟨by simp [h1], ?_⟩
        by_cases h2 : (bn : Int) = z
        · exact absurd (Prod.ext h1 (by show (l.length : Int) = z; rw [hbl]; exact h2)) he
        · simpa using h2
      · exact .inl (by simp; omega)
    clear h0 he
    rcases hor with h3 | ⟨h3, h4⟩
    · skip
      go_enter Try.func47, Try.ntmps47
      go_upto_region 1 with fail
      change Code.wp _ _ _ _ (boxed3 w room a n c s z)
      generalize boxed3 w room a n c s z = w2 at hx1 hh1 hh2 hh3 HX HR HB1 hz2 ⊢
      have HH1 := Lib.hid hh1
      have HH2 := Lib.hid hh2
      have HH3 := Lib.hid hh3
      clear hx1 hh1 hh2 hh3
      have E1 := Ext.drew' w2
      refine wp_region_e [] (.qs [0, 1, 2, 3, 4, 6] (.l 5 (.qs [7, 8] .nil))) (by kernel_rfl) (by kernel_rfl) ?_
      iterate 5 ((refine wpY_q rfl rfl _ (fun w' hx' => by go_simp; try rfl) ?_; go_simp))
      refine wpY_ld rfl rfl (.tmp 4) rfl (w.heap.size + 1) 0 rfl [.int .u64 s, .int .i64 z] _ (fun w' hh => range_of_heap2 (Ext.heap' hh HH2.out)) Try.underlying45 rfl (by kernel_rfl) ?_
      refine wpY_l rfl rfl ?_
      go_simp
      refine (refOf_any ba bn bc l _ (HB1.out.ext E1) (by omega)).mono ?_
      rintro en w3 ⟨rfl, hx3⟩
      have E3 := E1.trans' hx3
      refine ⟨E3, ?_⟩
      iterate 2 ((refine wpY_q rfl rfl _ (fun w' hx' => by go_simp; try rfl) ?_; go_simp))
      refine wpY_nil ?_
      have hrg := range_of_heap2 (E3.heap' HH1.out)
      have hh3 := E3.heap' HH3.out
      have HF := Lib.hid (setRow_heap w3 (w.heap.size + 1 + 1) _ #[.int .i64 room, .slice a n c] _ _ hh3)
      have HXF := Lib.hid ((HX.out.trans' E3).setRow (g := w.heap.size + 1 + 1) (cs := #[.int .i64 room, .slice a n c]) (by omega))
      go_wp2_with (first
        | ((with_reducible refine atSlot 21 ?_); refine wpList_of_wp rfl (wp_load_mid (op := ⟨some 21, _, _, _, _, _⟩) 28 _ rfl w.heap.size 0 rfl [.int .i64 room, .slice a n c] _ hrg Try.underlying28 rfl (by kernel_rfl) ?_); clear hrg)
        | ((with_reducible refine atStore 6 ?_); refine wpList_of_wp rfl (wp_store_row (o := ⟨none, _, _, _, _, _⟩) _ _ _ rfl (w.heap.size + 1 + 1) #[.int .i64 room, .slice a n c] rfl rfl _ _ hh3 (by kernel_rfl) rfl (by simp [Value.oneCell']) ?_))
        | fail)
      refine bodyPost_ret (results_c2 (ty := 28) rfl _ (w.heap.size + 1 + 1) [.int .i64 room, .slice a n c] _ rfl (range_of_heap2 HF.out) Try.underlying28 rfl (by kernel_rfl)) rfl ?_
      rw [HV.out]
      exact ⟨a, n, c, L, none, 0, 0, rfl, HH.out.ext HXF.out, rfl, rfl, own_nil _ _ _ _, HXF.out, fun k hk => .inl hk⟩
    · skip
      go_enter Try.func47, Try.ntmps47
      go_upto_region 1 with fail
      change Code.wp _ _ _ _ (boxed3 w room a n c s z)
      generalize boxed3 w room a n c s z = w2 at hx1 hh1 hh2 hh3 HX HR HB1 hz2 ⊢
      have HH1 := Lib.hid hh1
      have HH2 := Lib.hid hh2
      have HH3 := Lib.hid hh3
      clear hx1 hh1 hh2 hh3
      have E1 := Ext.drew' w2
      refine wp_region_e [] (.qs [0, 1, 2, 3, 4, 6] (.l 5 (.qs [7, 8] .nil))) (by kernel_rfl) (by kernel_rfl) ?_
      iterate 5 ((refine wpY_q rfl rfl _ (fun w' hx' => by go_simp; try rfl) ?_; go_simp))
      refine wpY_ld rfl rfl (.tmp 4) rfl (w.heap.size + 1) 0 rfl [.int .u64 s, .int .i64 z] _ (fun w' hh => range_of_heap2 (Ext.heap' hh HH2.out)) Try.underlying45 rfl (by kernel_rfl) ?_
      refine wpY_l rfl rfl ?_
      go_simp
      refine (refOf_any ba bn bc l _ (HB1.out.ext E1) (by omega)).mono ?_
      rintro en w3 ⟨rfl, hx3⟩
      have E3 := E1.trans' hx3
      refine ⟨E3, ?_⟩
      iterate 2 ((refine wpY_q rfl rfl _ (fun w' hx' => by go_simp; try rfl) ?_; go_simp))
      refine wpY_nil ?_
      have hrg := range_of_heap2 (E3.heap' HH1.out)
      have hh3 := E3.heap' HH3.out
      have HF := Lib.hid (setRow_heap w3 (w.heap.size + 1 + 1) _ #[.int .i64 room, .slice a n c] _ _ hh3)
      have HXF := Lib.hid ((HX.out.trans' E3).setRow (g := w.heap.size + 1 + 1) (cs := #[.int .i64 room, .slice a n c]) (by omega))
      go_wp2_with (first
        | ((with_reducible refine atSlot 21 ?_); refine wpList_of_wp rfl (wp_load_mid (op := ⟨some 21, _, _, _, _, _⟩) 28 _ rfl w.heap.size 0 rfl [.int .i64 room, .slice a n c] _ hrg Try.underlying28 rfl (by kernel_rfl) ?_); clear hrg)
        | ((with_reducible refine atStore 6 ?_); refine wpList_of_wp rfl (wp_store_row (o := ⟨none, _, _, _, _, _⟩) _ _ _ rfl (w.heap.size + 1 + 1) #[.int .i64 room, .slice a n c] rfl rfl _ _ hh3 (by kernel_rfl) rfl (by simp [Value.oneCell']) ?_))
        | fail)
      refine bodyPost_ret (results_c2 (ty := 28) rfl _ (w.heap.size + 1 + 1) [.int .i64 room, .slice a n c] _ rfl (range_of_heap2 HF.out) Try.underlying28 rfl (by kernel_rfl)) rfl ?_
      rw [HV.out]
      exact ⟨a, n, c, L, none, 0, 0, rfl, HH.out.ext HXF.out, rfl, rfl, own_nil _ _ _ _, HXF.out, fun k hk => .inl hk⟩
  · have hp : putC room (L.map Re.en) (s, z) l = putF room (L.map Re.en) (s, z) l := by unfold putC; rw [if_neg (by rintro (h | h); omega; exact h he)]
    have h3 : ((fp l : Int) == (s : Int)) = true := by
      have := congrArg Prod.fst he
      have h : fp l = s := this
      simp [h]
    have h4 : ((bn : Int) == z) = true := by
      have h : (l.length : Int) = z := congrArg Prod.snd he
      rw [← hbl, h]
      simp
    have HE := Lib.hid he
    have HPF := Lib.hid hp
    clear h0 hp he
    go_enter Try.func47, Try.ntmps47
    go_upto_region 1 with fail
    change Code.wp _ _ _ _ (boxed3 w room a n c s z)
    generalize boxed3 w room a n c s z = w2 at hx1 hh1 hh2 hh3 HX HR HB1 hz2 ⊢
    have HH1 := Lib.hid hh1
    have HH2 := Lib.hid hh2
    have HH3 := Lib.hid hh3
    clear hx1 hh1 hh2 hh3
    have E1 := Ext.drew' w2
    refine wp_region_e [] (.qs [0, 1, 2, 3, 4, 6] (.l 5 (.qs [7, 8] .nil))) (by kernel_rfl) (by kernel_rfl) ?_
    iterate 5 ((refine wpY_q rfl rfl _ (fun w' hx' => by go_simp; try rfl) ?_; go_simp))
    refine wpY_ld rfl rfl (.tmp 4) rfl (w.heap.size + 1) 0 rfl [.int .u64 s, .int .i64 z] _ (fun w' hh => range_of_heap2 (Ext.heap' hh HH2.out)) Try.underlying45 rfl (by kernel_rfl) ?_
    refine wpY_l rfl rfl ?_
    go_simp
    refine (refOf_any ba bn bc l _ (HB1.out.ext E1) (by omega)).mono ?_
    rintro en w3 ⟨rfl, hx3⟩
    have E3 := E1.trans' hx3
    refine ⟨E3, ?_⟩
    iterate 2 ((refine wpY_q rfl rfl _ (fun w' hx' => by go_simp; try rfl) ?_; go_simp))
    refine wpY_nil ?_
    have hrg := range_of_heap2 (E3.heap' HH1.out)
    have hid := range_of_heap2 (E3.heap' HH2.out)
    have HR3 := Lib.hid (HR.out.ext E3)
    clear h3 h4
    go_upto_region 4 with (first
      | ((with_reducible refine atSlot 22 ?_); refine wpList_of_wp rfl (wp_load_mid (op := ⟨some 22, _, _, _, _, _⟩) 28 _ rfl w.heap.size 0 rfl [.int .i64 room, .slice a n c] _ hrg Try.underlying28 rfl (by kernel_rfl) ?_); clear hrg)
      | ((with_reducible refine atSlot 23 ?_); refine wpList_of_wp rfl (wp_load_mid (op := ⟨some 23, _, _, _, _, _⟩) 45 _ rfl (w.heap.size + 1) 0 rfl [.int .u64 s, .int .i64 z] _ hid Try.underlying45 rfl (by kernel_rfl) ?_); clear hid)
      | (go_at_call 50; (with_reducible refine (At38_any B room a n c L s z _ HR3.out).mono ?_); rintro en w4 ⟨rfl, hx4⟩)
      | fail)
    have E4 := E3.trans' hx4
    have hh1 := E4.heap' HH1.out
    have hh3 := E4.heap' HH3.out
    have hrg := range_of_heap2 hh1
    have HX4 := Lib.hid (HX.out.trans' E4)
    have HR4 := Lib.hid (HR.out.ext E4)
    have hz4 := E4.size
    cases hat : atF (s, z) (L.map Re.en) with
    | some i =>
      obtain ⟨y, hy, -⟩ := re_at hat
      have HV := Lib.hid (show putC room (L.map Re.en) (s, z) l = (useF (L.map Re.en) i, [], 0) by rw [HPF.out]; unfold putF; rw [hat])
      have HUS := Lib.hid (cutL_use hy)
      have HUC := Lib.hid (use38r_any B room i a n c L y w4 HR4.out hy (by have := HBB.out; omega))
      rw [atI_some hat]
      have HHG := Lib.hid hh3
      have HY := Lib.hid hy
      clear hat hy hh1 hh3
      go_wp2_with (first
        | ((with_reducible refine atSlot 27 ?_); refine wpList_of_wp rfl (wp_load_mid (op := ⟨some 27, _, _, _, _, _⟩) 28 _ rfl w.heap.size 0 rfl [.int .i64 room, .slice a n c] _ hrg Try.underlying28 rfl (by kernel_rfl) ?_); clear hrg)
        | (go_at_call 63; (with_reducible refine HUC.out.mono ?_); rintro en w5 ⟨a5, n5, c5, rfl, hR5, hx5⟩; have hh5 := hx5.heap' HHG.out; have HR5 := Lib.hid hR5; have HF := Lib.hid (setRow_heap w5 (w.heap.size + 1 + 1) _ #[.int .i64 room, .slice a5 n5 c5] _ _ hh5); have HXF := Lib.hid ((HX4.out.trans' hx5).setRow (g := w.heap.size + 1 + 1) (cs := #[.int .i64 room, .slice a5 n5 c5]) (by omega)); have HC5 := Lib.hid (own_chgT hR5.own (Chg.of_grown (F := [w.heap.size + 1 + 1]) (grown_setRow w5 (w.heap.size + 1 + 1) #[.int .i64 room, .slice a5 n5 c5]) (List.mem_singleton.2 rfl)) (one_type hh5 (by decide))); clear hR5 hx5)
        | ((with_reducible refine atStore 6 ?_); refine wpList_of_wp rfl (wp_store_row (o := ⟨none, _, _, _, _, _⟩) _ _ _ rfl (w.heap.size + 1 + 1) #[.int .i64 room, .slice a5 n5 c5] rfl rfl _ _ hh5 (by kernel_rfl) rfl (by simp [Value.oneCell']) ?_))
        | fail)
      refine bodyPost_ret (results_c2 (ty := 28) rfl _ (w.heap.size + 1 + 1) [.int .i64 room, .slice a5 n5 c5] _ rfl (range_of_heap2 HF.out) Try.underlying28 rfl (by kernel_rfl)) rfl ?_
      rw [HV.out]
      have hR5 := HR5.out
      exact ⟨a5, n5, c5, _, none, 0, 0, rfl, ⟨HC5.out, fun k hk => own_ext (HH.out.data k (useL_mem HY.out hk)) HXF.out, hR5.ok, hR5.max⟩, HUS.out, rfl, own_nil _ _ _ _, HXF.out, fun k hk => .inl (useL_mem HY.out hk)⟩
    | none =>
      rw [atI_none hat]
      have hpf : putF room (L.map Re.en) (s, z) l = if room < pinF (L.map Re.en) + l.length then (L.map Re.en, [], 382) else ((evF room (L.map Re.en) (sizeF (L.map Re.en) + l.length)).1 ++ [⟨s, z, l, 0⟩], (evF room (L.map Re.en) (sizeF (L.map Re.en) + l.length)).2.map En.id, 0) := by unfold putF; rw [hat]
      obtain ⟨P, hP⟩ : ∃ P, P = byF true (L.map Re.en) := ⟨_, rfl⟩
      have hPP : P = pinF (L.map Re.en) := hP
      have hPle : P ≤ 1048576 := by have h1 := pinF_le (L.map Re.en); have h2 := HH.out.ok.fits; have h3 := HH.out.max; omega
      have hmax := HH.out.max
      have HBY := Lib.hid fun w' (h : Ext w4 w') => refBytes38_any B room a n c L true w' (HR4.out.ext h)
      rw [← hP] at HBY
      have HG0 := Lib.hid fun w' (h : Ext w4 w') => cell_of_row w' w.heap.size 0 _ _ _ (h.heap' hh1)
      have HG1 := Lib.hid fun w' (h : Ext w4 w') => range_of_heap2 (h.heap' hh1)
      have HHA := Lib.hid hh1
      have HHG := Lib.hid hh3
      clear hh1 hh3 hrg hP
      go_upto_region 6 with fail
      have F4 := Ext.drew' w4
      have hwr : IntKind.i64.wrap ((P : Int) + (bn : Int)) = (P : Int) + (bn : Int) := by rw [IntKind.wrap_i64]; omega
      by_cases hful : room < P + bn
      · have HV := Lib.hid (show putC room (L.map Re.en) (s, z) l = (L.map Re.en, [], 382) by rw [HPF.out, hpf, if_pos (by omega)])
        have hd : decide ((room : Int) < (P : Int) + (bn : Int)) = true := decide_eq_true (by omega)
        clear hat hpf hful hPP
        refine wp_region_e [] (.qs [0, 2, 3, 5, 6] (.l 1 (.qs [4, 7] .nil))) (by kernel_rfl) (by kernel_rfl) ?_
        refine wpY_ld rfl rfl (.tmp 3) rfl w.heap.size 0 rfl [.int .i64 room, .slice a n c] _ HG1.out Try.underlying28 rfl (by kernel_rfl) ?_
        iterate 3 ((refine wpY_q rfl rfl _ (fun w' hx' => by go_simp; try rfl) ?_; go_simp))
        refine wpY_q rfl rfl (.int .i64 room) (fun w' hx' => by have hb' := HG0.out w' hx'; go_simp; try rfl) ?_
        go_simp
        refine wpY_l rfl rfl ?_
        go_simp
        refine (HBY.out _ F4).mono ?_
        rintro en w5 ⟨rfl, hx5⟩
        have E5 := F4.trans' hx5
        refine ⟨E5, ?_⟩
        iterate 2 ((refine wpY_q rfl rfl _ (fun w' hx' => by go_simp; try rfl) ?_; go_simp))
        refine wpY_nil ?_
        have hrg := HG1.out w5 E5
        have hh3 := E5.heap' HHG.out
        have HF := Lib.hid (setRow_heap w5 (w.heap.size + 1 + 1) _ #[.int .i64 room, .slice a n c] _ _ hh3)
        have HXF := Lib.hid ((HX4.out.trans' E5).setRow (g := w.heap.size + 1 + 1) (cs := #[.int .i64 room, .slice a n c]) (by omega))
        go_wp2_with (first
          | ((with_reducible refine atSlot 38 ?_); refine wpList_of_wp rfl (wp_load_mid (op := ⟨some 38, _, _, _, _, _⟩) 28 _ rfl w.heap.size 0 rfl [.int .i64 room, .slice a n c] _ hrg Try.underlying28 rfl (by kernel_rfl) ?_); clear hrg)
          | ((with_reducible refine atStore 6 ?_); refine wpList_of_wp rfl (wp_store_row (o := ⟨none, _, _, _, _, _⟩) _ _ _ rfl (w.heap.size + 1 + 1) #[.int .i64 room, .slice a n c] rfl rfl _ _ hh3 (by kernel_rfl) rfl (by simp [Value.oneCell']) ?_))
          | fail)
        refine bodyPost_ret (results_c2 (ty := 28) rfl _ (w.heap.size + 1 + 1) [.int .i64 room, .slice a n c] _ rfl (range_of_heap2 HF.out) Try.underlying28 rfl (by kernel_rfl)) rfl ?_
        rw [HV.out]
        exact ⟨a, n, c, L, none, 0, 0, rfl, HH.out.ext HXF.out, rfl, rfl, own_nil _ _ _ _, HXF.out, fun k hk => .inl hk⟩
      · have HV := Lib.hid (show putC room (L.map Re.en) (s, z) l = ((evF room (L.map Re.en) (sizeF (L.map Re.en) + bn)).1 ++ [⟨s, z, l, 0⟩], (evF room (L.map Re.en) (sizeF (L.map Re.en) + bn)).2.map En.id, 0) by rw [HPF.out, hpf, if_neg (by omega), hbl])
        have hd : decide ((room : Int) < (P : Int) + (bn : Int)) = false := decide_eq_false (by omega)
        have HAT := Lib.hid (atF_none hat)
        have HFIT := Lib.hid (show P + bn ≤ room by omega)
        have HPP := Lib.hid hPP
        clear hat hpf hful hPP
        refine wp_region_e [] (.qs [0, 2, 3, 5, 6] (.l 1 (.qs [4, 7] .nil))) (by kernel_rfl) (by kernel_rfl) ?_
        refine wpY_ld rfl rfl (.tmp 3) rfl w.heap.size 0 rfl [.int .i64 room, .slice a n c] _ HG1.out Try.underlying28 rfl (by kernel_rfl) ?_
        iterate 3 ((refine wpY_q rfl rfl _ (fun w' hx' => by go_simp; try rfl) ?_; go_simp))
        refine wpY_q rfl rfl (.int .i64 room) (fun w' hx' => by have hb' := HG0.out w' hx'; go_simp; try rfl) ?_
        go_simp
        refine wpY_l rfl rfl ?_
        go_simp
        refine (HBY.out _ F4).mono ?_
        rintro en w5 ⟨rfl, hx5⟩
        have E5 := F4.trans' hx5
        refine ⟨E5, ?_⟩
        iterate 2 ((refine wpY_q rfl rfl _ (fun w' hx' => by go_simp; try rfl) ?_; go_simp))
        refine wpY_nil ?_
        have HX5 := Lib.hid (HX4.out.trans' E5)
        have hz5 := E5.size
        have HR5 := Lib.hid (HR4.out.ext E5)
        have HHA5 := Lib.hid (E5.heap' HHA.out)
        have HHB5 := Lib.hid (E5.heap' (E4.heap' HH2.out))
        have HHG5 := Lib.hid (E5.heap' HHG.out)
        have HBS := Lib.hid (HB1.out.ext (E4.trans' E5))
        clear hd hwr HG0 HG1 HBY HHA HHG E5 E4 HR4 HR3 F4
        go_wp2
        go_loopw [10] (RpRel w w5 B room bn n L (L.map Re.en)) (fun v _ => n - lenV v)
        case atStart => exact ⟨a, n, c, L, none, 0, 0, [], rfl, rfl, Nat.zero_add _, HHA5.out, HR5.out, own_nil _ _ _ _, rfl, rfl, rfl, Chg.refl _ _, fun k hk => hk⟩
        case round =>
          obtain ⟨a6, n6, c6, L6, ga, gn, gc, G, rfl, hgn, hn6, hh6, hR6, hG6, hp6, he1, he2, hc6, hs6⟩ := hrel
          rename World => w6
          have hx6 : Ext w w6 := ext_chg HX5.out hc6 (fun k hk => by rw [List.mem_singleton.1 hk]; exact Nat.le_refl _)
          have hln6 := hR6.len
          have hn6le := hR6.few
          obtain ⟨S, hS⟩ : ∃ S, S = byF false (L6.map Re.en) := ⟨_, rfl⟩
          have hSS : S = sizeF (L6.map Re.en) := hS
          have hSle : S ≤ 1048576 := by have h2 := hR6.ok.fits; omega
          have HBY := Lib.hid fun w' (h : Ext w6 w') => refBytes38_any B room a6 n6 c6 L6 false w' (hR6.ext h)
          rw [← hS] at HBY
          have HG0 := Lib.hid fun w' (h : Ext w6 w') => cell_of_row w' w.heap.size 0 _ _ _ (h.heap' hh6)
          have HG1 := Lib.hid fun w' (h : Ext w6 w') => range_of_heap2 (h.heap' hh6)
          have HH6 := Lib.hid hh6
          have HR6 := Lib.hid hR6
          have HGN := Lib.hid hgn
          have HN6 := Lib.hid hn6
          have HL6 := Lib.hid hln6
          have HG6 := Lib.hid hG6
          have HP6 := Lib.hid hp6
          have HE1 := Lib.hid he1
          have HE2 := Lib.hid he2
          have HC6 := Lib.hid hc6
          have HS6 := Lib.hid hs6
          have HX6 := Lib.hid hx6
          have HSS := Lib.hid hSS
          have F6 := Ext.drew' w6
          have hwr : IntKind.i64.wrap ((S : Int) + (bn : Int)) = (S : Int) + (bn : Int) := by rw [IntKind.wrap_i64]; omega
          clear hh6 hR6 hS hgn hn6 hln6 hG6 hp6 he1 he2 hc6 hx6 hSS hs6
          go_upto_region 9 with fail
          by_cases hgo : room < S + bn
          · have hd : decide ((room : Int) < (S : Int) + (bn : Int)) = true := decide_eq_true (by omega)
            have hfree : pinF (L6.map Re.en) < sizeF (L6.map Re.en) := by have h1 := HP6.out; have h2 := HSS.out; have h3 := HPP.out; have h4 := HFIT.out; omega
            obtain ⟨u, y, hy, hyp, hpin, hev, hsz, hpn⟩ := re_free hfree
            have hun : u < n6 := by have := (List.getElem?_eq_some_iff.1 hy).1; have := HL6.out; omega
            have hev' := hev room (S + bn) hgo
            have HY := Lib.hid hy
            have HYP := Lib.hid hyp
            have HPIN := Lib.hid hpin
            have HEV := Lib.hid hev'
            have HSZ := Lib.hid hsz
            have HPN := Lib.hid hpn
            clear hgo hfree hy hyp hpin hev hev' hsz hpn
            refine wp_region_e [] (.qs [0, 2, 3, 5, 6] (.l 1 (.qs [4, 7] .nil))) (by kernel_rfl) (by kernel_rfl) ?_
            refine wpY_ld rfl rfl (.tmp 3) rfl w.heap.size 0 rfl [.int .i64 room, .slice a6 n6 c6] _ HG1.out Try.underlying28 rfl (by kernel_rfl) ?_
            iterate 3 ((refine wpY_q rfl rfl _ (fun w' hx' => by go_simp; try rfl) ?_; go_simp))
            refine wpY_q rfl rfl (.int .i64 room) (fun w' hx' => by have hb' := HG0.out w' hx'; go_simp; try rfl) ?_
            go_simp
            refine wpY_l rfl rfl ?_
            go_simp
            refine (HBY.out _ F6).mono ?_
            rintro en w7 ⟨rfl, hx7⟩
            have E7 := F6.trans' hx7
            refine ⟨E7, ?_⟩
            iterate 2 ((refine wpY_q rfl rfl _ (fun w' hx' => by go_simp; try rfl) ?_; go_simp))
            refine wpY_nil ?_
            have HX7 := Lib.hid E7
            clear hd hwr HBY F6
            go_upto_region 10 with fail
            go_wp2
            go_loopw [11] (FrRel w7 u) (fun i _ => u - (intOf i).toNat)
            case atStart => exact ⟨0, rfl, Nat.zero_le _, Below.refl _ _⟩
            case round =>
              obtain ⟨j, rfl, hj, hx8⟩ := hrel
              rename World => w8
              have hx68 := HX7.out.trans' hx8
              have hcb := cell_of_row w8 w.heap.size 1 _ _ _ (hx68.heap' HH6.out)
              have hrow := Row.of_own (own_ext HR6.out.own hx68)
              have hjn : j < n6 := by omega
              by_cases hju : j < u
              · obtain ⟨k, hk⟩ : ∃ k, L6[j]? = some k := ⟨_, List.getElem?_eq_getElem (by have := HL6.out; omega)⟩
                have hkp := HPIN.out j hju k hk
                have HK := Lib.hid hk
                clear hk
                go_wp2_with (first
                  | ((with_reducible refine atSlot 50 ?_); refine wpList_of_wp rfl (owp_ix (o := ⟨some 50, _, _, _, _, _⟩) _ _ rfl Try.elRe rfl hrow j rfl rfl hjn ?_); intro b3 o3 hc3; have hp3 := re_pins HK.out hc3; clear hc3)
                  | fail)
                go_roundw
                case rel => exact ⟨j + 1, by go_num, hju, hx8⟩
                case measure => simp [intOf]; omega
              · obtain rfl : j = u := by omega
                have HY0 := Lib.hid (show (y.p : Int) = 0 by have := HYP.out; omega)
                clear hju
                have hal := Ext.alloc' w8 (.cells #[.int .u64 y.s, .int .i64 y.z] 45)
                have HG8 := Lib.hid (own_ext HG6.out (hx68.trans' hal))
                have hgb : gn ≤ 1048576 := by have := HN6.out; omega
                have hz56 : w5.heap.size ≤ w6.heap.size := HC6.out.size
                have hz8 : w5.heap.size ≤ (w8.alloc (.cells #[.int .u64 y.s, .int .i64 y.z] 45)).heap.size := Nat.le_trans hz56 (hx68.trans' hal).size
                have hone := id_one [(y.s, y.z)]
                have HR8 := Lib.hid (HR6.out.ext (hx68.trans' hal))
                have HH8 := Lib.hid ((hx68.trans' hal).heap' HH6.out)
                have HC8 := Lib.hid (HC6.out.trans' (Chg.of_ext (hx68.trans' hal)))
                clear hal
                go_wp2_with (first
                  | ((with_reducible refine atSlot 50 ?_); refine wpList_of_wp rfl (owp_ix (o := ⟨some 50, _, _, _, _, _⟩) _ _ rfl Try.elRe rfl hrow j rfl rfl hjn ?_); intro b3 o3 hc3; have hp3 := re_pins HY.out hc3; rw [HY0.out] at hp3; clear hc3)
                  | ((with_reducible refine atSlot 60 ?_); refine wpList_of_wp rfl (owp_ix (o := ⟨some 60, _, _, _, _, _⟩) _ _ rfl Try.elRe rfl hrow j rfl rfl hjn ?_); intro b4 o4 hc4; have hid4 := re_id HY.out hc4; clear hc4)
                  | ((with_reducible refine atSlot 63 ?_); refine wpList_of_wp rfl (wp_load_mid (op := ⟨some 63, _, _, _, _, _⟩) 45 _ rfl b4 o4 rfl [.int .u64 y.s, .int .i64 y.z] _ hid4 Try.underlying45 rfl (by kernel_rfl) ?_); clear hid4)
                  | ((with_reducible refine atSlot 65 ?_); refine wpList_of_wp rfl (owp_app (o := ⟨some 65, _, _, _, _, _⟩) _ _ rfl Try.elId rfl HG8.out rfl (Row.new w8 #[.int .u64 y.s, .int .i64 y.z] 45 1 2 rfl (by decide)) hone (by omega) (by unfold maxLen; omega) hz8 ?_); intro a9 c9 w9 ho9 hg9; refine Stop.of ?_)
                  | fail)
                have hO9 := own_app_other HR8.out.own HG8.out (by decide) hg9
                have hD9 : ∀ k ∈ L6, w9.ownsRow B 5 1 (.slice k.a k.n k.c) k.n (k.l.map u8) := fun k hk => own_app_other (HR8.out.data k hk) HG8.out (by decide) hg9
                have hR9 : Rc w9 B room a6 n6 c6 L6 := ⟨hO9, hD9, HR6.out.ok, HR6.out.max⟩
                have hh9 := grown_box hg9 HG8.out HH8.out (by decide)
                have hC9 : Chg [w.heap.size] w5 w9 := HC8.out.trans2 (Chg.of_grownO hg9) (fun k hk => .inr (own_block HG8.out k (Option.mem_toList.1 hk)).1)
                have hrg9 := range_of_heap2 hh9
                have HW9 := Lib.hid (without38_any B room j a6 n6 c6 L6 w9 hR9 hjn)
                have HR9 := Lib.hid hR9
                have HO9 := Lib.hid ho9
                have HH9 := Lib.hid hh9
                have HC9 := Lib.hid hC9
                clear hO9 hD9 hR9 hh9 hC9 ho9 hg9 HG8 HR8 HH8 HC8 hone hcb hrow hz8
                refine Stop.out ?_
                go_wp2_with (first
                  | ((with_reducible refine atSlot 66 ?_); refine wpList_of_wp rfl (wp_load_mid (op := ⟨some 66, _, _, _, _, _⟩) 28 _ rfl w.heap.size 0 rfl [.int .i64 room, .slice a6 n6 c6] _ hrg9 Try.underlying28 rfl (by kernel_rfl) ?_); clear hrg9)
                  | (go_at_call 64; (with_reducible refine HW9.out.mono ?_); rintro en w10 ⟨a10, c10, rfl, ho10, hx10⟩; have HO10 := Lib.hid ho10; have HX10 := Lib.hid hx10; have hh10 := hx10.heap' HH9.out; clear ho10 hx10)
                  | ((with_reducible refine atStore 3 ?_); refine wpList_of_wp rfl (wp_store_row (o := ⟨none, _, _, _, _, _⟩) _ _ _ rfl w.heap.size #[.int .i64 room, .slice a10 (n6 - 1) c10] rfl rfl _ _ hh10 (by kernel_rfl) rfl (by simp [Value.oneCell']) ?_))
                  | fail)
                go_roundw
                case rel =>
                  have hcs : Chg [w.heap.size] w10 (w10.setRow w.heap.size #[.int .i64 room, .slice a10 (n6 - 1) c10]) := Chg.of_grown (grown_setRow w10 _ _) (List.mem_singleton.2 rfl)
                  have hz9 : B ≤ w9.heap.size := by have h1 := HBB.out; have h2 := HX5.out.size; have h3 := HC9.out.size; omega
                  have hee : S + bn - y.l.length = sizeF ((cutL L6 j).map Re.en) + bn := by have h1 := HSZ.out; have h2 := HSS.out; omega
                  have hrel' : RpRel w w5 B room bn n L (L.map Re.en) (.slice a9 (gn + 1) c9) (w10.setRow w.heap.size #[.int .i64 room, .slice a10 (n6 - 1) c10]) := by
                    refine ⟨a10, n6 - 1, c10, cutL L6 j, a9, gn + 1, c9, G ++ [(y.s, y.z)], rfl, ?_, ?_, setRow_heap _ _ _ _ _ _ hh10, ⟨?_, fun k hk => ?_, HR6.out.ok.cut j, HR6.out.max⟩, ?_, ?_, ?_, ?_, ?_, fun k hk => HS6.out k (cutL_mem hk)⟩
                    · rw [List.length_append, ← HGN.out]; rfl
                    · have := HN6.out; omega
                    · exact own_base (own_chgT HO10.out hcs (one_type hh10 (by decide))) hz9
                    · exact own_chgT (own_ext (HR9.out.data k (cutL_mem hk)) HX10.out) hcs (one_type hh10 (by decide))
                    · rw [List.flatMap_append]
                      exact own_chgT (own_ext HO9.out HX10.out) hcs (one_type hh10 (by decide))
                    · rw [HPN.out, HP6.out]
                    · rw [HE1.out, ← HSS.out, HEV.out, hee]
                    · rw [HE2.out, ← HSS.out, HEV.out, hee, List.append_assoc]
                      rfl
                    · exact (HC9.out.trans' (Chg.of_ext HX10.out)).trans' hcs
                  (repeat apply Exists.intro)
                  exact ⟨hrel', rfl⟩
                case measure =>
                  have hm1 : n - (gn + 1) < n - gn := by have := HN6.out; omega
                  exact hm1
          · have hd : decide ((room : Int) < (S : Int) + (bn : Int)) = false := decide_eq_false (by omega)
            have HEV := Lib.hid (show evF room (L6.map Re.en) (S + bn) = (L6.map Re.en, []) from evF_end (.inl (by omega)))
            clear hgo
            refine wp_region_e [] (.qs [0, 2, 3, 5, 6] (.l 1 (.qs [4, 7] .nil))) (by kernel_rfl) (by kernel_rfl) ?_
            refine wpY_ld rfl rfl (.tmp 3) rfl w.heap.size 0 rfl [.int .i64 room, .slice a6 n6 c6] _ HG1.out Try.underlying28 rfl (by kernel_rfl) ?_
            iterate 3 ((refine wpY_q rfl rfl _ (fun w' hx' => by go_simp; try rfl) ?_; go_simp))
            refine wpY_q rfl rfl (.int .i64 room) (fun w' hx' => by have hb' := HG0.out w' hx'; go_simp; try rfl) ?_
            go_simp
            refine wpY_l rfl rfl ?_
            go_simp
            refine (HBY.out _ F6).mono ?_
            rintro en w7 ⟨rfl, hx7⟩
            have E7 := F6.trans' hx7
            refine ⟨E7, ?_⟩
            iterate 2 ((refine wpY_q rfl rfl _ (fun w' hx' => by go_simp; try rfl) ?_; go_simp))
            refine wpY_nil ?_
            have hx7 : Ext w w7 := HX6.out.trans' E7
            have HX7 := Lib.hid hx7
            have hh7 := E7.heap' HH6.out
            have hc57 := HC6.out.trans' (Chg.of_ext E7)
            have hn1 : w.heap.size + 1 ∉ [w.heap.size] := fun h => by have := List.mem_singleton.1 h; omega
            have hn2 : w.heap.size + 1 + 1 ∉ [w.heap.size] := fun h => by have := List.mem_singleton.1 h; omega
            have hhb := hc57.heap HHB5.out hn1
            have hhg := hc57.heap HHG5.out hn2
            obtain ⟨g, hge⟩ : ∃ g, g = w.heap.size + 1 + 1 := ⟨_, rfl⟩
            rw [← hge] at hhg
            have HGE := Lib.hid hge
            have hg1 : w.heap.size ∉ [g] := fun h => by have := List.mem_singleton.1 h; omega
            have hg2 : w.heap.size + 1 ∉ [g] := fun h => by have := List.mem_singleton.1 h; omega
            have R0 : Chg [g] w7 w7.drew := Chg.drew _ _
            have HRX := Lib.hid fun w' (h : Chg [g] w7 w') => ext_chg hx7 h (fun k hk => by rw [List.mem_singleton.1 hk]; omega)
            have HC0 := Lib.hid fun w' (h : Chg [g] w7 w') => cell_of_row w' w.heap.size 0 _ _ _ (h.heap hh7 hg1)
            have HC1 := Lib.hid fun w' (h : Chg [g] w7 w') => cell_of_row w' w.heap.size 1 _ _ _ (h.heap hh7 hg1)
            have HRB := Lib.hid fun w' (h : Chg [g] w7 w') => range_of_heap2 (h.heap hhb hg2)
            have hR7 := HR6.out.ext E7
            have HR7 := Lib.hid hR7
            have HRW := Lib.hid fun w' (h : Chg [g] w7 w') => Row.of_own (own_chgT hR7.own h (one_type hhg (by decide)))
            have HHG7 := Lib.hid hhg
            have HG7 := Lib.hid (own_ext HG6.out E7)
            have hone := re_oneCell L6
            clear hd hwr HBY F6 hx7 hh7 hc57 hn1 hn2 hhb hhg hge hg1 hg2 hR7
            go_upto_region 15 with fail
            rw [← HGE.out]
            refine wp_region_z (fun w' => Chg [g] w7 w') R0 [] (.qs [0, 1, 2, 3, 5, 6, 13] (.l 4 (.l 7 (.qs [8, 9] (.l 10 (.l 11 (.qs [12] (.l 14 (.qs [15, 16] .nil))))))))) (by kernel_rfl) (by kernel_rfl) ?_
            ((refine wpZ_q rfl rfl _ (fun w' hx' => by go_simp; try rfl) ?_; go_simp))
            refine wpZ_q rfl rfl (.int .i64 room) (fun w' hx' => by have hb' := HC0.out w' hx'; go_simp; try rfl) ?_
            go_simp
            ((refine wpZ_q rfl rfl _ (fun w' hx' => by go_simp; try rfl) ?_; go_simp))
            refine wpZ_q rfl rfl (.slice a6 n6 c6) (fun w' hx' => by have hb' := HC1.out w' hx'; go_simp; try rfl) ?_
            go_simp
            refine wpZ_ld rfl rfl (.tmp 4) rfl (w.heap.size + 1) 0 rfl [.int .u64 s, .int .i64 z] _ HRB.out Try.underlying45 rfl (by kernel_rfl) ?_
            go_simp
            iterate 2 ((refine wpZ_q rfl rfl _ (fun w' hx' => by go_simp; try rfl) ?_; go_simp))
            refine wpZ_l rfl rfl (owp_clone _ _ rfl Try.elRe rfl rfl (HRW.out _ R0) hone (by omega) ?_)
            intro a8 c8 w8 ho8 hx8
            have E8 : Ext w7 w8 := (Ext.drew' w7).trans' hx8
            refine ⟨fun _ => Chg.of_ext E8, ?_⟩
            go_simp
            refine wpZ_l rfl rfl (owp_clone _ _ rfl Try.elB rfl rfl (HB0.out.ext (HX7.out.trans' E8)).row (u8_oneCell _) (by omega) ?_)
            intro a9 c9 w9 ho9 hx9
            have E9 := E8.trans' hx9
            refine ⟨fun _ => Chg.of_ext E9, ?_⟩
            go_simp
            iterate 2 ((refine wpZ_q rfl rfl _ (fun w' hx' => by go_simp; try rfl) ?_; go_simp))
            refine wpZ_l rfl rfl ?_
            go_simp
            have hal := Ext.alloc' w9 (.cells #[.int .u64 s, .int .i64 z, .slice a9 bn c9, .int .i64 0] 106)
            have E10 := E9.trans' hal
            refine ⟨Chg.of_ext E10, ?_⟩
            have ho10 := own_ext (own_ext ho8 hx9) hal
            have ho10b := own_ext ho9 hal
            refine wpZ_l rfl rfl (owp_app _ _ rfl Try.elRe rfl ho10 rfl (Row.new w9 #[.int .u64 s, .int .i64 z, .slice a9 bn c9, .int .i64 0] 106 1 4 rfl (by decide)) (re_oneCell [⟨s, z, a9, bn, c9, l, 0⟩]) (by omega) (by unfold maxLen; omega) E10.size ?_)
            intro a11 c11 w11 ho11 hg11
            have E11 : Ext w7 w11 := below_app E10 ho10 hg11 E10.size
            have hb11 := own_app_other ho10b ho10 (by decide) hg11
            refine ⟨fun _ => Chg.of_ext E11, ?_⟩
            go_simp
            ((refine wpZ_q rfl rfl _ (fun w' hx' => by go_simp; try rfl) ?_; go_simp))
            have hh11 := E11.heap' HHG7.out
            refine wpZ_l rfl rfl (wp_store_row _ _ _ rfl g #[.int .i64 room, .slice a11 (n6 + 1) c11] rfl rfl _ _ hh11 (by kernel_rfl) rfl (by simp [Value.oneCell']) ?_)
            have hc12 : Chg [g] w11 (w11.setRow g #[.int .i64 room, .slice a11 (n6 + 1) c11]) := Chg.of_grown (grown_setRow w11 g _) (List.mem_singleton.2 rfl)
            have hh12 := setRow_heap w11 g _ #[.int .i64 room, .slice a11 (n6 + 1) c11] _ _ hh11
            have ho12 := own_chgT ho11 hc12 (one_type hh11 (by decide))
            have hb12 := own_chgT hb11 hc12 (one_type hh11 (by decide))
            have hg12 := own_chgT (own_ext HG7.out E11) hc12 (one_type hh11 (by decide))
            have hr12 := (Chg.of_ext (F := [g]) E11).trans' hc12
            refine ⟨fun _ => hr12, ?_⟩
            generalize w11.setRow g #[.int .i64 room, .slice a11 (n6 + 1) c11] = w12 at hc12 hh12 ho12 hb12 hg12 hr12 ⊢
            iterate 2 ((refine wpZ_q rfl rfl _ (fun w' hx' => by go_simp; try rfl) ?_; go_simp))
            refine wpZ_nil ?_
            clear hh11 hg11 ho11 hb11 hc12 ho10 ho10b ho8 ho9
            go_wp2
            refine bodyPost_ret (results_c2 (ty := 28) rfl _ g [.int .i64 room, .slice a11 (n6 + 1) c11] _ rfl (range_of_heap2 hh12) Try.underlying28 rfl (by kernel_rfl)) rfl ?_
            have hxw := HRX.out _ hr12
            have hEV : (evF room (L.map Re.en) (sizeF (L.map Re.en) + bn)).1 = L6.map Re.en := by rw [HE1.out, ← HSS.out, HEV.out]
            have hEG : (evF room (L.map Re.en) (sizeF (L.map Re.en) + bn)).2.map En.id = G := by rw [HE2.out, ← HSS.out, HEV.out]; simp
            have hv := HV.out
            rw [hEV, hEG] at hv
            have hE : (L6 ++ [(⟨s, z, a9, bn, c9, l, 0⟩ : Re)]).map Re.en = (putC room (L.map Re.en) (s, z) l).1 := by rw [hv, List.map_append]; rfl
            have hok := putC_ok (k := (s, z)) (l := l) HH.out.ok
            have hB := HBB.out
            have hz67 := (HX6.out.trans' E7).size
            have hz5 := HX5.out.size
            refine ⟨a11, n6 + 1, c11, L6 ++ [⟨s, z, a9, bn, c9, l, 0⟩], ga, gn, gc, by rw [hv]; rfl, ⟨?_, fun k hk => ?_, by rw [hE]; exact hok, HH.out.max⟩, hE, by rw [hv]; exact HGN.out, ?_, hxw, fun k hk => ?_⟩
            · rw [List.flatMap_append]
              exact own_base ho12 (by show B ≤ w7.heap.size; omega)
            · rcases List.mem_append.1 hk with hk | hk
              · exact own_chgT (HR7.out.data k hk) hr12 (one_type HHG7.out (by decide))
              · rw [List.mem_singleton.1 hk]
                exact own_base hb12 (by have := E8.size; omega)
            · rw [hv]
              exact own_base hg12 hz5
            · rcases List.mem_append.1 hk with hk | hk
              · exact .inl (HS6.out k hk)
              · rw [List.mem_singleton.1 hk]
                exact .inr fun b hb => by have h1 := (own_block hb12 b hb).1; have h2 := E8.size; omega
end Go.Proofs.Ytpiodpljiklfkaa
