/-
  The reference's Normal, of a normal list; the law DeltaTurns.
-/
import Derived.Test.YtcljlglmnagodaaDelL
import Derived.Test.YtcljlglmnagodaaDelN
namespace Go.Proofs.Ytcljlglmnagodaa
open Go.RowKit

theorem normal_get : ∀ {os : List Dp} {j : Nat} {x y : Dp}, NormalD os → os[j]? = some x → os[j + 1]? = some y → apartD x y
  | [], _, _, _, _, h, _ => by cases h
  | [_], 0, _, _, _, _, h => by simp at h
  | [_], j + 1, _, _, _, h, _ => by simp at h
  | a :: b :: os, 0, x, y, hN, h, h' => by
    simp at h h'
    subst h; subst h'
    exact hN.1
  | a :: b :: os, j + 1, x, y, hN, h, h' => normal_get (os := b :: os) (j := j) hN.2 (by simpa using h) (by simpa using h')
def NoMid (w1 : World) (x y : Od) (v : Nat → Value) (w' : World) : Prop :=
  ∃ b4 b5 : Nat, v 4 = .pointer (some ⟨b4, 0, none⟩) ∧ v 5 = .pointer (some ⟨b5, 0, none⟩) ∧ w'.heap[b4]? = some (.cells #[.int .i64 x.f, .int .i64 x.z, .slice x.a x.n x.c] 39 (0, 0)) ∧ w'.heap[b5]? = some (.cells #[.int .i64 y.f, .int .i64 y.z, .slice y.a y.n y.c] 39 (0, 0)) ∧ Ext w1 w'
def NoRel (w : World) (n : Nat) (i : Value) (wr : World) : Prop := ∃ j : Nat, i = .int .i64 j ∧ 1 ≤ j ∧ (j ≤ n ∨ j = 1) ∧ Ext w wr
theorem nice_cases {o : Dp} (h : o.nice) : (o.copies = true ∧ o.literal = false ∧ 1 ≤ o.z ∧ 0 ≤ o.f) ∨ (o.copies = false ∧ o.literal = true ∧ o.z = 0 ∧ o.f = 0) := by
  rcases h with ⟨h1, h2, h3⟩ | ⟨h1, h2, h3⟩
  · have hc : o.copies = true := by simp [Dp.copies, h1, h3]
    exact .inl ⟨hc, Dp.copies_not_literal hc, h1, h2⟩
  · have hc : o.copies = false := by simp [Dp.copies]; omega
    exact .inr ⟨hc, by simp [Dp.literal, h1, h2, h3], h1, h2⟩

set_option maxRecDepth 100000 in
set_option maxHeartbeats 4000000 in
theorem Normal_any (a : Option Addr) (n c : Nat) (L : List Od) (w : World) (hL : Ops w a n c L) (hN : Nm (L.map Od.d)) (hn : n ≤ 1000000000000) :
    Calls Try.prog 36 #[.slice a n c] w (NewNone (.bool true) w) := by
  have HL := Lib.hid hL.1
  have HN := Lib.hid hN
  have hrow := hL.2.1
  clear hN
  go_enter Try.func36, Try.ntmps36
  go_wp2
  go_loopw [3] (NoRel w n) (fun i _ => n - (intOf i).toNat)
  case atStart => exact ⟨1, rfl, Nat.le_refl _, .inr rfl, Below.refl _ _⟩
  case round =>
    obtain ⟨j, rfl, hj1, hj, hx⟩ := hrel
    rename World => w1
    have hj9 : j ≤ 1000000000000 := by omega
    by_cases hjn : j < n
    rotate_left
    · go_wp2
      go_ret
      exact ⟨rfl, hx⟩
    obtain ⟨x, hxx⟩ : ∃ x, L[j - 1]? = some x := ⟨_, List.getElem?_eq_getElem (by have := HL.out; omega)⟩
    obtain ⟨y, hyy⟩ : ∃ y, L[j]? = some y := ⟨_, List.getElem?_eq_getElem (by have := HL.out; omega)⟩
    have hap := normal_get (j := j - 1) HN.out.1 (by rw [List.getElem?_map, hxx]; rfl) (by rw [show j - 1 + 1 = j by omega, List.getElem?_map, hyy]; rfl)
    have hxn := HN.out.2 x.d (List.mem_map_of_mem (List.mem_of_getElem? hxx))
    have hyn := HN.out.2 y.d (List.mem_map_of_mem (List.mem_of_getElem? hyy))
    obtain ⟨hxI1, -, hxf, hxz⟩ := hL.2.2 x (List.mem_of_getElem? hxx)
    obtain ⟨hyI1, -, hyf, hyz⟩ := hL.2.2 y (List.mem_of_getElem? hyy)
    have hxl := hxI1.len
    have hyl := hyI1.len
    unfold i64B at hxf hxz hyf hyz
    have hr1 := hrow.ext hx
    have HX := Lib.hid hxx
    have HY := Lib.hid hyy
    have HXL := Lib.hid hxl
    have HYL := Lib.hid hyl
    have hwj : IntKind.i64.wrap ((j : Int) - 1) = ((j - 1 : Nat) : Int) := by rw [IntKind.wrap_i64]; omega
    clear hxx hyy hxl hyl hj
    go_wp2
    refine wp_region_e [] (.qs [0, 1, 2, 3, 4, 5, 6, 7, 8] (.alt 9 (.l 10 (.l 11 (.l 12 .nil))) (.alt 10 (.l 9 (.l 11 (.l 12 .nil))) .stop))) (by kernel_rfl) (by kernel_rfl) ?_
    refine wpY_midA (Meets [4, 5, 12, 13, 14, 15, 16, 17, 18, 19, 20] (NoMid w1 x y)) ?_ ?_
    · iterate 3 ((refine wpY_q rfl rfl _ (fun w' hx' => by go_simp; try rfl) ?_; go_simp))
      refine wpY_ix rfl rfl (.tmp 12) (.tmp 14) rfl Try.elO rfl (fun w' h => hr1.ext h) (j - 1) rfl rfl (by omega) ?_
      intro b3 o3 hc3
      refine wpY_ld rfl rfl (.tmp 15) rfl b3 o3 rfl x.cells _ (fun w' h => od_range HX.out (fun i hi => hc3 i hi w' h)) Try.underlying39 rfl (by kernel_rfl) ?_
      clear hc3
      iterate 2 ((refine wpY_q rfl rfl _ (fun w' hx' => by go_simp; try rfl) ?_; go_simp))
      refine wpY_ix rfl rfl (.tmp 17) (.tmp 18) rfl Try.elO rfl (fun w' h => hr1.ext h) j rfl rfl hjn ?_
      intro b4 o4 hc4
      refine wpY_ld rfl rfl (.tmp 19) rfl b4 o4 rfl y.cells _ (fun w' h => od_range HY.out (fun i hi => hc4 i hi w' h)) Try.underlying39 rfl (by kernel_rfl) ?_
      clear hc4
      have E1 : Ext w1 w1.drew := Ext.drew' _
      refine wpY_alt rfl rfl ?_ (wpY_alt rfl rfl ?_ wpY_stop)
      · go_simp
        have E12 : Ext w1 (w1.alloc (.cells #[.int .i64 0, .int .i64 0, .slice none 0 0] 39)).drew := (Ext.alloc' w1 _).trans' (Ext.drew' _)
        have hh1 : (w1.alloc (.cells #[.int .i64 0, .int .i64 0, .slice none 0 0] 39)).drew.heap[w1.heap.size]? = some (.cells #[.int .i64 0, .int .i64 0, .slice none 0 0] 39 (0, 0)) := heap_alloc_new w1 (.cells #[.int .i64 0, .int .i64 0, .slice none 0 0] 39)
        have hlt1 : w1.heap.size < (w1.alloc (.cells #[.int .i64 0, .int .i64 0, .slice none 0 0] 39)).drew.heap.size := (Array.getElem?_eq_some_iff.1 hh1).1
        refine ⟨E12, ?_⟩
        generalize (w1.alloc (.cells #[.int .i64 0, .int .i64 0, .slice none 0 0] 39)).drew = w2 at E12 hh1 hlt1 ⊢
        refine wpY_l rfl rfl ?_
        go_simp
        have E13 : Ext w1 (w2.alloc (.cells #[.int .i64 0, .int .i64 0, .slice none 0 0] 39)) := E12.trans' (Ext.alloc' w2 _)
        have hh2 := heap_alloc_new w2 (.cells #[.int .i64 0, .int .i64 0, .slice none 0 0] 39)
        have hh1' := (Ext.alloc' w2 (.cells #[.int .i64 0, .int .i64 0, .slice none 0 0] 39)).heap' hh1
        refine ⟨E13, ?_⟩
        generalize w2.alloc (.cells #[.int .i64 0, .int .i64 0, .slice none 0 0] 39) = w3 at E13 hh2 hh1' ⊢
        refine wpY_l rfl rfl (wp_store_row _ _ _ rfl w1.heap.size #[.int .i64 x.f, .int .i64 x.z, .slice x.a x.n x.c] rfl rfl _ _ hh1' (by kernel_rfl) rfl (by simp [Value.oneCell']) ?_)
        have E14 : Ext w1 (w3.setRow w1.heap.size #[.int .i64 x.f, .int .i64 x.z, .slice x.a x.n x.c]) := E13.setRow (by omega)
        have hx4 := setRow_heap w3 w1.heap.size _ #[.int .i64 x.f, .int .i64 x.z, .slice x.a x.n x.c] _ _ hh1'
        have hy4 : (w3.setRow w1.heap.size #[.int .i64 x.f, .int .i64 x.z, .slice x.a x.n x.c]).heap[w2.heap.size]? = _ := (setRow_other w3 w1.heap.size w2.heap.size _ (by omega)).trans hh2
        refine ⟨fun _ => E14, ?_⟩
        generalize w3.setRow w1.heap.size #[.int .i64 x.f, .int .i64 x.z, .slice x.a x.n x.c] = w4 at E14 hx4 hy4 ⊢
        go_simp
        refine wpY_l rfl rfl (wp_store_row _ _ _ rfl w2.heap.size #[.int .i64 y.f, .int .i64 y.z, .slice y.a y.n y.c] rfl rfl _ _ hy4 (by kernel_rfl) rfl (by simp [Value.oneCell']) ?_)
        have E15 : Ext w1 (w4.setRow w2.heap.size #[.int .i64 y.f, .int .i64 y.z, .slice y.a y.n y.c]) := E14.setRow (by omega)
        refine ⟨fun _ => E15, wpY_nil (Meets.mk (by kernel_rfl) ⟨w1.heap.size, w2.heap.size, rfl, rfl, ?_, setRow_heap w4 w2.heap.size _ _ _ _ hy4, E15⟩)⟩
        exact (setRow_other w4 w2.heap.size w1.heap.size _ (by omega)).trans hx4
      · go_simp
        have E12 : Ext w1 (w1.alloc (.cells #[.int .i64 0, .int .i64 0, .slice none 0 0] 39)).drew := (Ext.alloc' w1 _).trans' (Ext.drew' _)
        have hh1 : (w1.alloc (.cells #[.int .i64 0, .int .i64 0, .slice none 0 0] 39)).drew.heap[w1.heap.size]? = some (.cells #[.int .i64 0, .int .i64 0, .slice none 0 0] 39 (0, 0)) := heap_alloc_new w1 (.cells #[.int .i64 0, .int .i64 0, .slice none 0 0] 39)
        have hlt1 : w1.heap.size < (w1.alloc (.cells #[.int .i64 0, .int .i64 0, .slice none 0 0] 39)).drew.heap.size := (Array.getElem?_eq_some_iff.1 hh1).1
        refine ⟨E12, ?_⟩
        generalize (w1.alloc (.cells #[.int .i64 0, .int .i64 0, .slice none 0 0] 39)).drew = w2 at E12 hh1 hlt1 ⊢
        refine wpY_l rfl rfl ?_
        go_simp
        have E13 : Ext w1 (w2.alloc (.cells #[.int .i64 0, .int .i64 0, .slice none 0 0] 39)) := E12.trans' (Ext.alloc' w2 _)
        have hh2 := heap_alloc_new w2 (.cells #[.int .i64 0, .int .i64 0, .slice none 0 0] 39)
        have hh1' := (Ext.alloc' w2 (.cells #[.int .i64 0, .int .i64 0, .slice none 0 0] 39)).heap' hh1
        refine ⟨E13, ?_⟩
        generalize w2.alloc (.cells #[.int .i64 0, .int .i64 0, .slice none 0 0] 39) = w3 at E13 hh2 hh1' ⊢
        refine wpY_l rfl rfl (wp_store_row _ _ _ rfl w2.heap.size #[.int .i64 x.f, .int .i64 x.z, .slice x.a x.n x.c] rfl rfl _ _ hh2 (by kernel_rfl) rfl (by simp [Value.oneCell']) ?_)
        have E14 : Ext w1 (w3.setRow w2.heap.size #[.int .i64 x.f, .int .i64 x.z, .slice x.a x.n x.c]) := E13.setRow (by omega)
        have hx4 := setRow_heap w3 w2.heap.size _ #[.int .i64 x.f, .int .i64 x.z, .slice x.a x.n x.c] _ _ hh2
        have hy4 : (w3.setRow w2.heap.size #[.int .i64 x.f, .int .i64 x.z, .slice x.a x.n x.c]).heap[w1.heap.size]? = _ := (setRow_other w3 w2.heap.size w1.heap.size _ (by omega)).trans hh1'
        refine ⟨fun _ => E14, ?_⟩
        generalize w3.setRow w2.heap.size #[.int .i64 x.f, .int .i64 x.z, .slice x.a x.n x.c] = w4 at E14 hx4 hy4 ⊢
        go_simp
        refine wpY_l rfl rfl (wp_store_row _ _ _ rfl w1.heap.size #[.int .i64 y.f, .int .i64 y.z, .slice y.a y.n y.c] rfl rfl _ _ hy4 (by kernel_rfl) rfl (by simp [Value.oneCell']) ?_)
        have E15 : Ext w1 (w4.setRow w1.heap.size #[.int .i64 y.f, .int .i64 y.z, .slice y.a y.n y.c]) := E14.setRow (by omega)
        refine ⟨fun _ => E15, wpY_nil (Meets.mk (by kernel_rfl) ⟨w2.heap.size, w1.heap.size, rfl, rfl, ?_, setRow_heap w4 w1.heap.size _ _ _ _ hy4, E15⟩)⟩
        exact (setRow_other w4 w1.heap.size w2.heap.size _ (by omega)).trans hx4
    · rintro a' w5 ⟨v, rfl, b4, b5, hv4, hv5, hh4, hh5, hx5⟩
      simp only [fill, hv4, hv5]
      go_simp
      clear hv4 hv5
      rcases nice_cases hxn with ⟨x1, x2, x3, x4⟩ | ⟨x1, x2, x3, x4⟩
      · rcases nice_cases hyn with ⟨y1, y2, y3, y4⟩ | ⟨y1, y2, y3, y4⟩
        · have hLx : ∀ w', Calls Try.prog 76 #[.agg #[.int .i64 x.f, .int .i64 x.z, .slice x.a x.n x.c]] w' (NewNone (.bool false) w') := fun w' => by have h := Literal_any x w' HXL.out; rwa [x2] at h
          have hCx : ∀ w', Calls Try.prog 75 #[.agg #[.int .i64 x.f, .int .i64 x.z, .slice x.a x.n x.c]] w' (NewNone (.bool true) w') := fun w' => by have h := Copies_any x w' HXL.out; rwa [x1] at h
          have hCy : ∀ w', Calls Try.prog 75 #[.agg #[.int .i64 y.f, .int .i64 y.z, .slice y.a y.n y.c]] w' (NewNone (.bool true) w') := fun w' => by have h := Copies_any y w' HYL.out; rwa [y1] at h
          have hx3' : 1 ≤ x.z := x3
          have hx4' : 0 ≤ x.f := x4
          have hy3' : 1 ≤ y.z := y3
          have hy4' : 0 ≤ y.f := y4
          have hne : ¬ x.f + x.z = y.f := fun h => hap.2 ⟨by show 0 < x.z; omega, by show 0 < y.z; omega, h⟩
          clear x1 x2 x3 x4 y1 y2 y3 y4 hap hxn hyn
          have t1 : True := trivial
          have t2 : True := trivial
          have t3 : True := trivial
          by_cases hge : x.z ≤ y.f
          · have hd : decide (x.z ≤ y.f) = true := decide_eq_true hge
            obtain ⟨q1, q2⟩ := neI (x := y.f - x.z) (y := x.f) (by omega)
            clear hne
            go_wp2_with (first
              | ((with_reducible refine atSlot 21 ?_); refine wpList_of_wp rfl (wp_load_mid (op := ⟨some 21, _, _, _, _, _⟩) 39 _ rfl b4 0 rfl [.int .i64 x.f, .int .i64 x.z, .slice x.a x.n x.c] _ (range_of_heap hh4) Try.underlying39 rfl (by kernel_rfl) ?_))
              | (go_at_call 76; have _t := t1; (with_reducible refine (hLx _).mono ?_); rintro e w6 ⟨rfl, hx6⟩; clear t1)
              | ((with_reducible refine atSlot 28 ?_); refine wpList_of_wp rfl (wp_load_mid (op := ⟨some 28, _, _, _, _, _⟩) 39 _ rfl b4 0 rfl [.int .i64 x.f, .int .i64 x.z, .slice x.a x.n x.c] _ (range_of_heap (Ext.heap' hx6 hh4)) Try.underlying39 rfl (by kernel_rfl) ?_))
              | (go_at_call 75; have _t := t2; (with_reducible refine (hCx _).mono ?_); rintro e w7 ⟨rfl, hx7⟩; clear t2)
              | ((with_reducible refine atSlot 31 ?_); refine wpList_of_wp rfl (wp_load_mid (op := ⟨some 31, _, _, _, _, _⟩) 39 _ rfl b5 0 rfl [.int .i64 y.f, .int .i64 y.z, .slice y.a y.n y.c] _ (range_of_heap (Ext.heap' hx7 (Ext.heap' hx6 hh5))) Try.underlying39 rfl (by kernel_rfl) ?_))
              | (go_at_call 75; have _t := t3; (with_reducible refine (hCy _).mono ?_); rintro e w8 ⟨rfl, hx8⟩; clear t3; have hb4 := fun j => cell_of_row w8 b4 j _ _ _ (Ext.heap' hx8 (Ext.heap' hx7 (Ext.heap' hx6 hh4))); have hb5 := fun j => cell_of_row w8 b5 j _ _ _ (Ext.heap' hx8 (Ext.heap' hx7 (Ext.heap' hx6 hh5))))
              | fail)
            go_roundw
            case rel => exact ⟨j + 1, by go_num, by omega, .inl (by omega), ((hx.trans' hx5).trans' hx6).trans' (Ext.trans' hx7 hx8)⟩
            case measure => simp [intOf]; omega
          · have hd : decide (x.z ≤ y.f) = false := decide_eq_false hge
            clear hne
            go_wp2_with (first
              | ((with_reducible refine atSlot 21 ?_); refine wpList_of_wp rfl (wp_load_mid (op := ⟨some 21, _, _, _, _, _⟩) 39 _ rfl b4 0 rfl [.int .i64 x.f, .int .i64 x.z, .slice x.a x.n x.c] _ (range_of_heap hh4) Try.underlying39 rfl (by kernel_rfl) ?_))
              | (go_at_call 76; have _t := t1; (with_reducible refine (hLx _).mono ?_); rintro e w6 ⟨rfl, hx6⟩; clear t1)
              | ((with_reducible refine atSlot 28 ?_); refine wpList_of_wp rfl (wp_load_mid (op := ⟨some 28, _, _, _, _, _⟩) 39 _ rfl b4 0 rfl [.int .i64 x.f, .int .i64 x.z, .slice x.a x.n x.c] _ (range_of_heap (Ext.heap' hx6 hh4)) Try.underlying39 rfl (by kernel_rfl) ?_))
              | (go_at_call 75; have _t := t2; (with_reducible refine (hCx _).mono ?_); rintro e w7 ⟨rfl, hx7⟩; clear t2)
              | ((with_reducible refine atSlot 31 ?_); refine wpList_of_wp rfl (wp_load_mid (op := ⟨some 31, _, _, _, _, _⟩) 39 _ rfl b5 0 rfl [.int .i64 y.f, .int .i64 y.z, .slice y.a y.n y.c] _ (range_of_heap (Ext.heap' hx7 (Ext.heap' hx6 hh5))) Try.underlying39 rfl (by kernel_rfl) ?_))
              | (go_at_call 75; have _t := t3; (with_reducible refine (hCy _).mono ?_); rintro e w8 ⟨rfl, hx8⟩; clear t3; have hb4 := fun j => cell_of_row w8 b4 j _ _ _ (Ext.heap' hx8 (Ext.heap' hx7 (Ext.heap' hx6 hh4))); have hb5 := fun j => cell_of_row w8 b5 j _ _ _ (Ext.heap' hx8 (Ext.heap' hx7 (Ext.heap' hx6 hh5))))
              | fail)
            go_roundw
            case rel => exact ⟨j + 1, by go_num, by omega, .inl (by omega), ((hx.trans' hx5).trans' hx6).trans' (Ext.trans' hx7 hx8)⟩
            case measure => simp [intOf]; omega
        · have hLx : ∀ w', Calls Try.prog 76 #[.agg #[.int .i64 x.f, .int .i64 x.z, .slice x.a x.n x.c]] w' (NewNone (.bool false) w') := fun w' => by have h := Literal_any x w' HXL.out; rwa [x2] at h
          have hCx : ∀ w', Calls Try.prog 75 #[.agg #[.int .i64 x.f, .int .i64 x.z, .slice x.a x.n x.c]] w' (NewNone (.bool true) w') := fun w' => by have h := Copies_any x w' HXL.out; rwa [x1] at h
          have hCy : ∀ w', Calls Try.prog 75 #[.agg #[.int .i64 y.f, .int .i64 y.z, .slice y.a y.n y.c]] w' (NewNone (.bool false) w') := fun w' => by have h := Copies_any y w' HYL.out; rwa [y1] at h
          clear x1 x2 x3 x4 y1 y2 y3 y4 hap hxn hyn
          have t1 : True := trivial
          have t2 : True := trivial
          have t3 : True := trivial
          go_wp2_with (first
            | ((with_reducible refine atSlot 21 ?_); refine wpList_of_wp rfl (wp_load_mid (op := ⟨some 21, _, _, _, _, _⟩) 39 _ rfl b4 0 rfl [.int .i64 x.f, .int .i64 x.z, .slice x.a x.n x.c] _ (range_of_heap hh4) Try.underlying39 rfl (by kernel_rfl) ?_))
            | (go_at_call 76; have _t := t1; (with_reducible refine (hLx _).mono ?_); rintro e w6 ⟨rfl, hx6⟩; clear t1)
            | ((with_reducible refine atSlot 28 ?_); refine wpList_of_wp rfl (wp_load_mid (op := ⟨some 28, _, _, _, _, _⟩) 39 _ rfl b4 0 rfl [.int .i64 x.f, .int .i64 x.z, .slice x.a x.n x.c] _ (range_of_heap (Ext.heap' hx6 hh4)) Try.underlying39 rfl (by kernel_rfl) ?_))
            | (go_at_call 75; have _t := t2; (with_reducible refine (hCx _).mono ?_); rintro e w7 ⟨rfl, hx7⟩; clear t2)
            | ((with_reducible refine atSlot 31 ?_); refine wpList_of_wp rfl (wp_load_mid (op := ⟨some 31, _, _, _, _, _⟩) 39 _ rfl b5 0 rfl [.int .i64 y.f, .int .i64 y.z, .slice y.a y.n y.c] _ (range_of_heap (Ext.heap' hx7 (Ext.heap' hx6 hh5))) Try.underlying39 rfl (by kernel_rfl) ?_))
            | (go_at_call 75; have _t := t3; (with_reducible refine (hCy _).mono ?_); rintro e w8 ⟨rfl, hx8⟩; clear t3; have hb4 := fun j => cell_of_row w8 b4 j _ _ _ (Ext.heap' hx8 (Ext.heap' hx7 (Ext.heap' hx6 hh4))); have hb5 := fun j => cell_of_row w8 b5 j _ _ _ (Ext.heap' hx8 (Ext.heap' hx7 (Ext.heap' hx6 hh5))))
            | fail)
          go_roundw
          case rel => exact ⟨j + 1, by go_num, by omega, .inl (by omega), ((hx.trans' hx5).trans' hx6).trans' (Ext.trans' hx7 hx8)⟩
          case measure => simp [intOf]; omega
      · have hyc : y.d.copies = true ∧ y.d.literal = false := by
          rcases nice_cases hyn with ⟨y1, y2, y3, y4⟩ | ⟨y1, y2, y3, y4⟩
          · exact ⟨y1, y2⟩
          · exact absurd ⟨x3, y3⟩ hap.1
        obtain ⟨y1, y2⟩ := hyc
        have hLx : ∀ w', Calls Try.prog 76 #[.agg #[.int .i64 x.f, .int .i64 x.z, .slice x.a x.n x.c]] w' (NewNone (.bool true) w') := fun w' => by have h := Literal_any x w' HXL.out; rwa [x2] at h
        have hLy : ∀ w', Calls Try.prog 76 #[.agg #[.int .i64 y.f, .int .i64 y.z, .slice y.a y.n y.c]] w' (NewNone (.bool false) w') := fun w' => by have h := Literal_any y w' HYL.out; rwa [y2] at h
        have hCx : ∀ w', Calls Try.prog 75 #[.agg #[.int .i64 x.f, .int .i64 x.z, .slice x.a x.n x.c]] w' (NewNone (.bool false) w') := fun w' => by have h := Copies_any x w' HXL.out; rwa [x1] at h
        clear x1 x2 x3 x4 y1 y2 hap hxn hyn
        have t1 : True := trivial
        have t2 : True := trivial
        have t3 : True := trivial
        go_wp2_with (first
          | ((with_reducible refine atSlot 21 ?_); refine wpList_of_wp rfl (wp_load_mid (op := ⟨some 21, _, _, _, _, _⟩) 39 _ rfl b4 0 rfl [.int .i64 x.f, .int .i64 x.z, .slice x.a x.n x.c] _ (range_of_heap hh4) Try.underlying39 rfl (by kernel_rfl) ?_))
          | (go_at_call 76; have _t := t1; (with_reducible refine (hLx _).mono ?_); rintro e w6 ⟨rfl, hx6⟩; clear t1)
          | ((with_reducible refine atSlot 24 ?_); refine wpList_of_wp rfl (wp_load_mid (op := ⟨some 24, _, _, _, _, _⟩) 39 _ rfl b5 0 rfl [.int .i64 y.f, .int .i64 y.z, .slice y.a y.n y.c] _ (range_of_heap (Ext.heap' hx6 hh5)) Try.underlying39 rfl (by kernel_rfl) ?_))
          | (go_at_call 76; have _t := t2; (with_reducible refine (hLy _).mono ?_); rintro e w7 ⟨rfl, hx7⟩; clear t2)
          | ((with_reducible refine atSlot 28 ?_); refine wpList_of_wp rfl (wp_load_mid (op := ⟨some 28, _, _, _, _, _⟩) 39 _ rfl b4 0 rfl [.int .i64 x.f, .int .i64 x.z, .slice x.a x.n x.c] _ (range_of_heap (Ext.heap' hx7 (Ext.heap' hx6 hh4))) Try.underlying39 rfl (by kernel_rfl) ?_))
          | (go_at_call 75; have _t := t3; (with_reducible refine (hCx _).mono ?_); rintro e w8 ⟨rfl, hx8⟩; clear t3)
          | fail)
        go_roundw
        case rel => exact ⟨j + 1, by go_num, by omega, .inl (by omega), ((hx.trans' hx5).trans' hx6).trans' (Ext.trans' hx7 hx8)⟩
        case measure => simp [intOf]; omega

theorem make_check {b T : List UInt8} (hb : b.length ≤ 2048) (hT : T.length ≤ 2048) : ckRes b.length (makeD b T) = ((T.length : Int), 0) := by
  have h := make_inv b T
  have hsz := make_size b T
  have hl := length_size h.nm.2
  rw [← hsz]
  exact ckRes_mk (by omega) (by omega) h.ok (by omega) (by omega)
theorem make_apply {b T : List UInt8} (hb : b.length ≤ 2048) (hT : T.length ≤ 2048) : apRes b (makeD b T) = (T, 0) := by
  unfold apRes
  rw [make_check hb hT, make_turns]
  rfl
set_option maxRecDepth 100000 in
set_option maxHeartbeats 4000000 in
theorem DeltaTurns_walk (a1 : Option Addr) (n1 c1 : Nat) (la : List UInt8) (a2 : Option Addr) (n2 c2 : Nat) (lb : List UInt8) (w : World) (h1 : Bytes w a1 n1 c1 la) (hs1 : n1 ≤ 140737488351232) (h2 : Bytes w a2 n2 c2 lb) (hs2 : n2 ≤ 140737488351232) :
    Calls Try.prog 7 #[.slice a1 n1 c1, .slice a2 n2 c2] w (LawPost w) := by
  by_cases hb1 : 2048 < n1
  · have hd : decide ((2048 : Int) < n1) = true := decide_eq_true (by omega)
    go_enter Try.func7, Try.ntmps7
    go_wp2
    go_ret
    exact ⟨rfl, Below.refl _ _⟩
  have hd1 : decide ((2048 : Int) < n1) = false := decide_eq_false (by omega)
  by_cases hb2 : 2048 < n2
  · have hd : decide ((2048 : Int) < n2) = true := decide_eq_true (by omega)
    go_enter Try.func7, Try.ntmps7
    go_wp2
    go_ret
    exact ⟨rfl, Below.refl _ _⟩
  have hd2 : decide ((2048 : Int) < n2) = false := decide_eq_false (by omega)
  have hla := h1.len
  have hlb := h2.len
  have hmk : makeRes la lb = (makeD la lb, 0) := by unfold makeRes; rw [hla, hlb, if_neg (by omega)]
  have hap := make_apply (b := la) (T := lb) (by omega) (by omega)
  have hlen : (makeD la lb).length ≤ 2048 := by
    have h := length_size (make_inv la lb).nm.2
    rw [make_size] at h; omega
  have HMK := Lib.hid hmk
  have HAP := Lib.hid hap
  have HLEN := Lib.hid hlen
  clear hla hlb hmk hap hlen
  go_enter Try.func7, Try.ntmps7
  go_wp2_with (first
    | (go_at_call 26; (with_reducible refine (Make_any _ _ _ _ _ _ _ _ _ h1 h2 (by omega) (by omega) HMK.out).mono ?_); rintro e w3 ⟨a3, n3, c3, L3, rfl, hL3, hD3, hx3⟩; have hn3 : n3 ≤ 2048 := (by have h := HLEN.out; rw [← hD3, List.length_map, hL3.1] at h; exact h); have hap3 : apRes la (L3.map Od.d) = (lb, 0) := (by rw [hD3]; exact HAP.out); have hA := Apply_any a1 n1 c1 la a3 n3 c3 L3 w3 (h1.ext hx3) hL3 (by omega) (by omega) hap3; clear hap3; have hNm : Nm (L3.map Od.d) := (by rw [hD3]; exact (make_inv la lb).nm); have HD3 := Lib.hid hD3; clear hD3)
    | (go_at_call 34; (with_reducible refine hA.mono ?_); rintro e w4 ⟨a4, n4, c4, rfl, ho4, hx4⟩; clear hA)
    | (go_at_call 28; (with_reducible refine (known_any _).mono ?_); rintro e w5 ⟨rfl, hx5⟩; have hb4 := (Bytes.of_own ho4).ext hx5; have hb5 := ((h2.ext hx3).ext hx4).ext hx5; have hNo := Normal_any a3 n3 c3 L3 w5 ((hL3.ext hx4).ext hx5) hNm (by omega))
    | ((with_reducible refine atSlot 40 ?_); refine wpList_of_wp rfl (owp_conv (o := ⟨some 40, _, _, _, _, _⟩) _ rfl rfl hb4 Try.underlying26 Try.underlying5 Try.underlying9 ?_))
    | ((with_reducible refine atSlot 42 ?_); refine wpList_of_wp rfl (owp_conv (o := ⟨some 42, _, _, _, _, _⟩) _ rfl rfl hb5 Try.underlying26 Try.underlying5 Try.underlying9 ?_))
    | (go_at_call 36; (with_reducible refine hNo.mono ?_); rintro e w6 ⟨rfl, hx6⟩; clear hNo)
    | fail)
  go_ret
  exact ⟨rfl, ((hx3.trans' hx4).trans' hx5).trans' hx6⟩
end Go.Proofs.Ytcljlglmnagodaa
