/-
  The reference's Add.
-/
import Derived.Test.YtkhjeeaojlaagaaDelB
import Derived.Test.YtkhjeeaojlaagaaDelD
namespace Go.Proofs.Ytkhjeeaojlaagaa
open Go.RowKit

theorem own_keptO {w w' : World} {B e s n c : Nat} {a : Option Addr} {o : Option Nat} {xs : List Value} (h : w.ownsRow B e s (.slice a n c) n xs) (hg : w.grownBy w' o) (ho : ∀ g, o = some g → g < B) : w'.ownsRow B e s (.slice a n c) n xs := by
  cases o with
  | none => exact own_ext h (Ext.of_grown hg)
  | some g => exact own_kept h hg (ho g rfl)
def MidO (w8 : World) (N : Nat) (cs : List Value) (v : Nat → Value) (w' : World) : Prop :=
  ∃ (c' : Nat) (a' : Option Addr), v 4 = .slice a' N c' ∧ w'.ownsRow w8.heap.size 83 3 (.slice a' N c') N cs ∧ Ext w8 w'
theorem ops_of_own {w : World} {B N c : Nat} {a : Option Addr} {L : List Od} (h : w.ownsRow B 83 3 (.slice a N c) N (L.flatMap Od.cells)) (hI : ∀ k ∈ L, k.In w) : Ops w a N c L :=
  ⟨by have := h.1; rw [od_len] at this; omega, Row.of_own h, hI⟩
/-- New ops, of these data. -/
def NewOps (w : World) (D : List Dp) (X : Nat) (e : Ending) (w' : World) : Prop :=
  ∃ (a : Option Addr) (n c : Nat) (L : List Od), e = .returned (.slice a n c) ∧ Ops w' a n c L ∧ L.map Od.d = D ∧ (∀ k ∈ L, k.n ≤ X) ∧ Ext w w'
theorem addD_nil (o : Dp) (h : o.fine) : addD [] o = [o] := by
  unfold addD
  rcases h.nice with ⟨h1, h2, h3⟩ | ⟨h1, h2, h3⟩
  · have hc : o.copies = true := by simp [Dp.copies, h1, h3]
    simp only [List.getLast?_nil, hc, if_true]
    rw [← h3]
  · have hc : o.copies = false := by simp [Dp.copies]; omega
    simp only [List.getLast?_nil, hc]
    obtain ⟨f, z, l⟩ := o
    obtain rfl : z = 0 := h1
    obtain rfl : f = 0 := h2
    rfl
theorem addD_new {A : List Dp} {y o : Dp} (hy : y.fine) (ho : o.fine) (h : ¬ (y.literal = true ∧ o.literal = true)) (h2 : ¬ (y.copies = true ∧ o.copies = true ∧ y.f + y.z = o.f)) : addD (A ++ [y]) o = A ++ [y] ++ [o] := by
  unfold addD
  rw [last_snoc]
  simp only
  rcases ho.nice with ⟨h3, h4, h5⟩ | ⟨h3, h4, h5⟩
  · have hc : o.copies = true := by simp [Dp.copies, h3, h5]
    rw [if_pos hc]
    have : ¬ (0 < y.z ∧ y.f + y.z = o.f) := by
      rintro ⟨g1, g2⟩
      rcases hy.nice with ⟨g3, g4, g5⟩ | ⟨g3, g4, g5⟩
      · exact h2 ⟨by simp [Dp.copies, g3, g5], hc, g2⟩
      · omega
    rw [if_neg this, ← h5]
  · have hc : o.copies = false := by simp [Dp.copies]; omega
    have hol : o.literal = true := by
      rcases ho with h | h
      · rw [h.1] at hc; cases hc
      · exact h
    rw [if_neg (by rw [hc]; decide)]
    have : ¬ y.z = 0 := by
      intro g1
      rcases hy with g | g
      · have := g.1; simp only [Dp.copies, Bool.and_eq_true, decide_eq_true_eq] at this; omega
      · exact h ⟨g, hol⟩
    rw [if_neg this]
    obtain ⟨f, z, l⟩ := o
    obtain rfl : z = 0 := h3
    obtain rfl : f = 0 := h4
    rfl
theorem addD_lit {A : List Dp} {y o : Dp} (hy : y.literal = true) (ho : o.literal = true) : addD (A ++ [y]) o = A ++ [⟨0, 0, y.l ++ o.l⟩] := by
  have hy' := hy
  simp only [Dp.literal, Bool.and_eq_true, decide_eq_true_eq] at hy'
  have hoc : o.copies = false := by
    cases h : o.copies with
    | false => rfl
    | true => rw [Dp.copies_not_literal h] at ho; cases ho
  unfold addD
  rw [last_snoc]
  simp only [hoc, List.dropLast_concat]
  rw [if_neg (by decide), if_pos hy'.1.1]
  congr 2
  show Dp.mk y.f y.z _ = _
  rw [hy'.1.1, hy'.1.2]
theorem addD_copy {A : List Dp} {y o : Dp} (hy : y.copies = true) (ho : o.copies = true) (hj : y.f + y.z = o.f) : addD (A ++ [y]) o = A ++ [⟨y.f, y.z + o.z, []⟩] := by
  have hy' := hy
  simp only [Dp.copies, Bool.and_eq_true, decide_eq_true_eq, List.isEmpty_iff] at hy'
  unfold addD
  rw [last_snoc]
  simp only [ho, List.dropLast_concat]
  rw [if_pos trivial, if_pos ⟨by omega, hj⟩]
  congr 2
  show Dp.mk y.f _ y.l = _
  rw [hy'.2]
theorem last_split {L : List Od} {y : Od} {n : Nat} (hl : L.length = n) (h : L[n - 1]? = some y) (hn : 0 < n) : L = L.take (n - 1) ++ [y] := by
  have h1 : L = L.take (n - 1 + 1) := by rw [List.take_of_length_le (by omega)]
  rw [List.take_add_one, h] at h1
  exact h1

set_option maxRecDepth 100000 in
set_option maxHeartbeats 4000000 in
theorem refAdd_any (a : Option Addr) (n c : Nat) (L : List Od) (k : Od) (X : Nat) (w : World) (hL : Ops w a n c L) (hn : n ≤ 1000000000) (hk : k.In w) (hX : k.n ≤ X) (hLX : ∀ y ∈ L, y.n ≤ X) (hXX : X ≤ 10000000000000)
    (hkf : k.d.fine) (hLf : ∀ y ∈ L, y.d.fine) (hkZ : k.f + k.z ≤ 1000000000000) (hLZ : ∀ y ∈ L, y.f + y.z ≤ 1000000000000) :
    Calls Try.prog 49 #[.slice a n c, .agg #[.int .i64 k.f, .int .i64 k.z, .slice k.a k.n k.c]] w (NewOps w (addD (L.map Od.d) k.d) (X + X)) := by
  obtain ⟨D, hD⟩ : ∃ D, D = addD (L.map Od.d) k.d := ⟨_, rfl⟩
  rw [← hD]
  have HD := Lib.hid hD
  clear hD
  have hbox0 := heap_alloc_new w (.cells #[.int .i64 k.f, .int .i64 k.z, .slice k.a k.n k.c] 83)
  have hkb := hk.1.ext (Ext.alloc' w (.cells #[.int .i64 k.f, .int .i64 k.z, .slice k.a k.n k.c] 83))
  have HB0 := Lib.hid hbox0
  have HKL := Lib.hid hk.1.len
  clear hbox0
  go_enter Try.func49, Try.ntmps49
  go_wp2_with (at_builtin; with_reducible refine wpList_clone rfl _ _ rfl Try.elB rfl rfl hkb.row (u8_oneCell _) (by omega) ?_; intro a1 c1 w1 ho1 hx1; refine Stop.of ?_)
  have hbox1 := hx1.heap' HB0.out
  have hc1 := fun j => cell_of_row w1 w.heap.size j _ _ _ hbox1
  have hf1 := fun j => frozen_none hbox1 j
  refine Stop.out ?_
  go_upto_region 2 with fail
  have hbox2 : (w1.setCell ⟨w.heap.size, 2, none⟩ (.slice a1 k.n c1)).heap[w.heap.size]? = some (.cells #[.int .i64 k.f, .int .i64 k.z, .slice a1 k.n c1] 83 (0, 0)) := by
    simp [World.setCell, Array.getElem?_modify, hbox1]
  have hg2 := grown_setCell' w1 w.heap.size 2 (.slice a1 k.n c1)
  have hx2 : Ext w (w1.setCell ⟨w.heap.size, 2, none⟩ (.slice a1 k.n c1)) := ((Ext.alloc' w _).trans' hx1).rd hg2 (Nat.le_refl _)
  have ho2 := own_kept ho1 hg2 (alloc_gt w _)
  clear hc1 hf1 hbox1 hx1 ho1 hg2 hkb
  generalize w1.setCell ⟨w.heap.size, 2, none⟩ (.slice a1 k.n c1) = w2 at hbox2 hx2 ho2 ⊢
  have hL2 := hL.ext hx2
  have hr2 := hL2.2.1
  have hkI : (⟨k.f, k.z, a1, k.n, c1, k.l⟩ : Od).In w2 := ⟨Bytes.of_own ho2, hk.2⟩
  obtain ⟨hz1, hz2, hz3⟩ := hk.2
  unfold i64B at hz2 hz3
  have HL := Lib.hid hL.1
  go_upto_if 15 with fail
  go_cut [15] from 16 (fun _ w' => Ext w2 w' ∧ D = L.map Od.d ++ [k.d])
  case first =>
    by_cases h0 : 0 < n
    rotate_left
    · have hd : decide ((0 : Int) ≤ (n : Int) - 1) = false := decide_eq_false (by omega)
      have hd' : decide ((1 : Int) ≤ n) = false := decide_eq_false (by omega)
      go_wp2
      go_meet
      exact ⟨Below.refl _ _, by rw [HD.out, List.eq_nil_of_length_eq_zero (l := L) (by have := HL.out; omega)]; exact addD_nil _ hkf⟩
    obtain ⟨y, hy⟩ : ∃ y, L[n - 1]? = some y := ⟨_, List.getElem?_eq_getElem (by have := HL.out; omega)⟩
    have hyf := hLf y (List.mem_of_getElem? hy)
    have hyI := hL2.2.2 y (List.mem_of_getElem? hy)
    have hyX := hLX y (List.mem_of_getElem? hy)
    have HY := Lib.hid hy
    have HYL := Lib.hid hyI.1.len
    have hsp : L.map Od.d = (L.take (n - 1)).map Od.d ++ [y.d] := by
      conv => lhs; rw [last_split HL.out hy h0]
      rw [List.map_append]; rfl
    have hd : decide ((0 : Int) ≤ (n : Int) - 1) = true := decide_eq_true (by omega)
    have hd' : decide ((1 : Int) ≤ n) = true := decide_eq_true (by omega)
    have hwn : IntKind.i64.wrap ((n : Int) - 1) = (n : Int) - 1 := by rw [IntKind.wrap_i64]; omega
    clear hy
    have hyZ := hLZ y (List.mem_of_getElem? HY.out)
    have hyn0 := hyf.nice
    have hkn0 := hkf.nice
    have hynn : 0 ≤ y.f ∧ 0 ≤ y.z := by rcases hyn0 with ⟨h1, h2, -⟩ | ⟨h1, h2, -⟩ <;> (simp only [Od.d] at h1 h2; omega)
    have hknn : 0 ≤ k.f ∧ 0 ≤ k.z := by rcases hkn0 with ⟨h1, h2, -⟩ | ⟨h1, h2, -⟩ <;> (simp only [Od.d] at h1 h2; omega)
    obtain ⟨hyf0, hyz0⟩ := hynn
    obtain ⟨hkf0, hkz0⟩ := hknn
    have hyz9 : y.z ≤ 1000000000000 := by omega
    have hkz9 : k.z ≤ 1000000000000 := by omega
    have hyf9 : y.f ≤ 1000000000000 := by omega
    have hkf9 : k.f ≤ 1000000000000 := by omega
    have hLk : ∀ w', Calls Try.prog 61 #[.agg #[.int .i64 k.f, .int .i64 k.z, .slice a1 k.n c1]] w' (NewNone (.bool k.d.literal) w') := fun w' => Literal_any (⟨k.f, k.z, a1, k.n, c1, k.l⟩ : Od) w' HKL.out
    have hCk : ∀ w', Calls Try.prog 62 #[.agg #[.int .i64 k.f, .int .i64 k.z, .slice a1 k.n c1]] w' (NewNone (.bool k.d.copies) w') := fun w' => Copies_any (⟨k.f, k.z, a1, k.n, c1, k.l⟩ : Od) w' HKL.out
    have HLk := Lib.hid hLk
    have HCk := Lib.hid hCk
    have HSP := Lib.hid hsp
    have HYF := Lib.hid hyf
    have HKF := Lib.hid hkf
    clear hLk hCk hsp hyn0 hkn0 hz1 hz2 hz3 hkf hyf
    have t1 : True := trivial
    have t2 : True := trivial
    have hx6 := Ext.alloc' w2 (.cells #[.int .i64 y.f, .int .i64 y.z, .slice y.a y.n y.c] 83)
    cases hyl : y.d.literal with
    | true =>
      have hyc : y.d.copies = false := by
        cases h : y.d.copies with
        | false => rfl
        | true => rw [Dp.copies_not_literal h] at hyl; cases hyl
      have YL := Lib.hid hyl
      have YC := Lib.hid hyc
      clear hyl hyc
      cases hkl : k.d.literal with
      | true =>
        have KL := Lib.hid hkl
        clear hkl
        go_wp2_with (first
          | ((with_reducible refine atSlot 18 ?_); refine wpList_of_wp rfl (owp_ix (o := ⟨some 18, _, _, _, _, _⟩) _ _ rfl Try.elO rfl hr2 (n - 1) rfl (by omega) (by omega) ?_); intro b3 o3 hc3; have hrg3 := od_range HY.out hc3; clear hc3)
          | ((with_reducible refine atSlot 19 ?_); refine wpList_of_wp rfl (wp_load_mid (op := ⟨some 19, _, _, _, _, _⟩) 83 _ rfl b3 o3 rfl y.cells _ hrg3 Try.underlying83 rfl (by kernel_rfl) ?_); simp only [Od.cells])
          | (go_at_call 61; have _t := t1; (with_reducible refine (Literal_any y _ HYL.out).mono ?_); rw [YL.out]; rintro e w4 ⟨rfl, hx4⟩; clear t1; have hbk4 := (hx6.trans' hx4).heap' hbox2; have hck4 := (fun j => cell_of_row w4 w.heap.size j _ _ _ hbk4))
          | (go_at_call 61; (with_reducible refine (HLk.out _).mono ?_); rw [KL.out]; rintro e w5 ⟨rfl, hx5⟩; refine Stop.of ?_))
        have hx25 := (hx6.trans' hx4).trans' hx5
        have hbk5 := hx25.heap' hbox2
        have hby5 := (hx4.trans' hx5).heap' (heap_alloc_new w2 (.cells #[.int .i64 y.f, .int .i64 y.z, .slice y.a y.n y.c] 83))
        have hAk : ∀ w' j, Ext w5 w' → w'.cell? ⟨w.heap.size, j, none⟩ = #[.int .i64 k.f, .int .i64 k.z, .slice a1 k.n c1][j]? := fun w' j hx => cell_of_row _ _ _ _ _ _ (hx.heap' hbk5)
        have hAy : ∀ w' j, Ext w5 w' → w'.cell? ⟨w2.heap.size, j, none⟩ = #[.int .i64 y.f, .int .i64 y.z, .slice y.a y.n y.c][j]? := fun w' j hx => cell_of_row _ _ _ _ _ _ (hx.heap' hby5)
        have hr5 := hr2.ext hx25
        have hyb5 := hyI.1.ext hx25
        have hkb5 := hkI.1.ext hx25
        have E0 : Ext w5 w5.drew := Ext.drew' _
        clear hck4 hbk4
        refine Stop.out ?_
        go_wp2
        refine wp_region_e [] (.qs [0, 1, 2, 4, 5, 7, 8] (.l 3 (.l 6 (.l 9 (.qs [10] (.l 11 (.l 12 (.qs [13] .nil)))))))) (by kernel_rfl) (by kernel_rfl) ?_
        iterate 2 ((refine wpY_q rfl rfl _ (fun w' hx' => by go_simp; try rfl) ?_; go_simp))
        refine wpY_sl_hi rfl rfl (.tmp 26) (.tmp 27) rfl Try.elO rfl (fun w' h => hr5.ext h) (n - 1) rfl (by omega) (by omega) ?_
        intro a6 hr6
        iterate 4 ((refine wpY_q rfl rfl _ (fun w' hx' => by go_simp; try rfl) ?_; go_simp))
        refine wpY_l rfl rfl (owp_clone _ _ rfl Try.elO rfl rfl (hr6 _ E0) (fun u hu => od_oneCell L u (List.mem_of_mem_take hu)) (by omega) ?_)
        intro a7 c7 w7 ho7 hx7
        have E7 := E0.trans' hx7
        refine ⟨fun _ => E7, ?_⟩
        go_simp
        refine wpY_l rfl rfl (owp_clone _ _ rfl Try.elB rfl rfl (hyb5.ext E7).row (u8_oneCell _) (by omega) ?_)
        intro a8 c8 w8 ho8 hx8
        have E8 := E7.trans' hx8
        have ho7' := own_ext ho7 hx8
        refine ⟨fun _ => E8, ?_⟩
        go_simp
        refine wpY_l rfl rfl (owp_app _ _ rfl Try.elB rfl ho8 rfl (hkb5.ext E8).row (u8_oneCell _) (by omega) (by unfold maxLen; omega) hx8.size ?_)
        intro a9 c9 w9 ho9 hg9
        have E79 : Ext w7 w9 := below_app hx8 ho8 hg9 hx8.size
        have E9 : Ext w5 w9 := E7.trans' E79
        have ho7'' := own_ext ho7 E79
        refine ⟨fun _ => E9, ?_⟩
        go_simp
        ((refine wpY_q rfl rfl _ (fun w' hx' => by go_simp; try rfl) ?_; go_simp))
        refine wpY_l rfl rfl ?_
        go_simp
        have hal := Ext.alloc' w9 (.cells #[.int .i64 0, .int .i64 0, .slice a9 (y.n + k.n) c9] 83)
        have E10 := E9.trans' hal
        have ho7a := own_ext ho7'' hal
        refine ⟨E10, ?_⟩
        refine wpY_l rfl rfl (owp_app _ _ rfl Try.elO rfl ho7a rfl (Row.new w9 #[.int .i64 0, .int .i64 0, .slice a9 (y.n + k.n) c9] 83 1 3 rfl (by decide)) (fun u hu => od_oneCell [⟨0, 0, a9, y.n + k.n, c9, []⟩] u (by simpa [Od.cells] using hu)) (by omega) (by unfold maxLen; omega) (by have := E79.size; have := hal.size; have := hx7.size; omega) ?_)
        intro a11 c11 w11 ho11 hg11
        have E11 : Ext w5.drew w11 := below_app ((hx7.trans' E79).trans' hal) ho7a hg11 ((hx7.trans' E79).trans' hal).size
        have E11' := E0.trans' E11
        have ho9' := own_keptO (own_ext ho9 hal) hg11 (fun g hg => (own_block ho7 g hg).2)
        rw [← List.map_append] at ho9'
        rw [od_take] at ho11
        refine ⟨fun _ => E11', ?_⟩
        go_simp
        ((refine wpY_q rfl rfl _ (fun w' hx' => by go_simp; try rfl) ?_; go_simp))
        refine wpY_nil ?_
        clear hAk hAy
        go_wp2
        go_ret
        have hxe := hx25.trans' E11'
        have hlt := (List.take_subset (n - 1) L)
        refine ⟨a11, n - 1 + 1, c11, L.take (n - 1) ++ [⟨0, 0, a9, y.n + k.n, c9, y.l ++ k.l⟩], rfl, ops_of_own (by rw [List.flatMap_append, List.flatMap_cons, List.flatMap_nil, List.append_nil]; exact ho11) (fun x hx => ?_), ?_, fun x hx => ?_, hx2.trans' hxe⟩
        · rcases List.mem_append.1 hx with h | h
          · exact (hL2.2.2 x (hlt h)).ext hxe
          · obtain rfl : x = ⟨0, 0, a9, y.n + k.n, c9, y.l ++ k.l⟩ := by simpa using h
            exact ⟨Bytes.of_own ho9', by show y.n + k.n ≤ _; omega, by unfold i64B; show -9223372036854775808 ≤ (0 : Int) ∧ (0 : Int) ≤ _; omega, by unfold i64B; show -9223372036854775808 ≤ (0 : Int) ∧ (0 : Int) ≤ _; omega⟩
        · rw [HD.out, HSP.out, addD_lit YL.out KL.out, List.map_append]; rfl
        · rcases List.mem_append.1 hx with h | h
          · have := hLX x (hlt h); omega
          · obtain rfl : x = ⟨0, 0, a9, y.n + k.n, c9, y.l ++ k.l⟩ := by simpa using h
            show y.n + k.n ≤ X + X; omega
      | false =>
        have hkc : k.d.copies = true := by
          rcases HKF.out with h | h
          · exact h.1
          · rw [h] at hkl; cases hkl
        have KL := Lib.hid hkl
        have KC := Lib.hid hkc
        clear hkl hkc
        go_wp2_with (first
          | ((with_reducible refine atSlot 18 ?_); refine wpList_of_wp rfl (owp_ix (o := ⟨some 18, _, _, _, _, _⟩) _ _ rfl Try.elO rfl hr2 (n - 1) rfl (by omega) (by omega) ?_); intro b3 o3 hc3; have hrg3 := od_range HY.out hc3; clear hc3)
          | ((with_reducible refine atSlot 19 ?_); refine wpList_of_wp rfl (wp_load_mid (op := ⟨some 19, _, _, _, _, _⟩) 83 _ rfl b3 o3 rfl y.cells _ hrg3 Try.underlying83 rfl (by kernel_rfl) ?_); simp only [Od.cells])
          | (go_at_call 61; have _t := t1; (with_reducible refine (Literal_any y _ HYL.out).mono ?_); rw [YL.out]; rintro e w4 ⟨rfl, hx4⟩; clear t1; have hbk4 := (hx6.trans' (hx4)).heap' hbox2; have hck4 := (fun j => cell_of_row w4 w.heap.size j _ _ _ hbk4); have hby4 := Ext.heap' (hx4) (heap_alloc_new w2 (.cells #[.int .i64 y.f, .int .i64 y.z, .slice y.a y.n y.c] 83)); have hcy4 := (fun j => cell_of_row w4 w2.heap.size j _ _ _ hby4))
          | (go_at_call 61; (with_reducible refine (HLk.out _).mono ?_); rw [KL.out]; rintro e w5 ⟨rfl, hx5⟩; have hbk5 := (hx6.trans' (hx4.trans' hx5)).heap' hbox2; have hck5 := (fun j => cell_of_row w5 w.heap.size j _ _ _ hbk5); have hby5 := Ext.heap' (hx4.trans' hx5) (heap_alloc_new w2 (.cells #[.int .i64 y.f, .int .i64 y.z, .slice y.a y.n y.c] 83)); have hcy5 := (fun j => cell_of_row w5 w2.heap.size j _ _ _ hby5))
          | (go_at_call 62; have _t := t2; (with_reducible refine (Copies_any y _ HYL.out).mono ?_); rw [YC.out]; rintro e w7 ⟨rfl, hx7⟩; clear t2; have hbk7 := (hx6.trans' ((hx4.trans' hx5).trans' hx7)).heap' hbox2; have hck7 := (fun j => cell_of_row w7 w.heap.size j _ _ _ hbk7); have hby7 := Ext.heap' ((hx4.trans' hx5).trans' hx7) (heap_alloc_new w2 (.cells #[.int .i64 y.f, .int .i64 y.z, .slice y.a y.n y.c] 83)); have hcy7 := (fun j => cell_of_row w7 w2.heap.size j _ _ _ hby7)))
        go_meet
        exact ⟨((hx6.trans' hx4).trans' hx5).trans' hx7, by rw [HD.out, HSP.out, addD_new HYF.out HKF.out (fun h => by rw [KL.out] at h; cases h.2) (fun h => by rw [YC.out] at h; cases h.1)]⟩
    | false =>
      have hyc : y.d.copies = true := by
        rcases HYF.out with h | h
        · exact h.1
        · rw [h] at hyl; cases hyl
      have YL := Lib.hid hyl
      have YC := Lib.hid hyc
      clear hyl hyc
      cases hkc : k.d.copies with
      | false =>
        have KC := Lib.hid hkc
        clear hkc
        go_wp2_with (first
          | ((with_reducible refine atSlot 18 ?_); refine wpList_of_wp rfl (owp_ix (o := ⟨some 18, _, _, _, _, _⟩) _ _ rfl Try.elO rfl hr2 (n - 1) rfl (by omega) (by omega) ?_); intro b3 o3 hc3; have hrg3 := od_range HY.out hc3; clear hc3)
          | ((with_reducible refine atSlot 19 ?_); refine wpList_of_wp rfl (wp_load_mid (op := ⟨some 19, _, _, _, _, _⟩) 83 _ rfl b3 o3 rfl y.cells _ hrg3 Try.underlying83 rfl (by kernel_rfl) ?_); simp only [Od.cells])
          | (go_at_call 61; have _t := t1; (with_reducible refine (Literal_any y _ HYL.out).mono ?_); rw [YL.out]; rintro e w4 ⟨rfl, hx4⟩; clear t1; have hbk4 := (hx6.trans' (hx4)).heap' hbox2; have hck4 := (fun j => cell_of_row w4 w.heap.size j _ _ _ hbk4); have hby4 := Ext.heap' (hx4) (heap_alloc_new w2 (.cells #[.int .i64 y.f, .int .i64 y.z, .slice y.a y.n y.c] 83)); have hcy4 := (fun j => cell_of_row w4 w2.heap.size j _ _ _ hby4))
          | (go_at_call 62; have _t := t2; (with_reducible refine (Copies_any y _ HYL.out).mono ?_); rw [YC.out]; rintro e w5 ⟨rfl, hx5⟩; clear t2; have hbk5 := (hx6.trans' (hx4.trans' hx5)).heap' hbox2; have hck5 := (fun j => cell_of_row w5 w.heap.size j _ _ _ hbk5); have hby5 := Ext.heap' (hx4.trans' hx5) (heap_alloc_new w2 (.cells #[.int .i64 y.f, .int .i64 y.z, .slice y.a y.n y.c] 83)); have hcy5 := (fun j => cell_of_row w5 w2.heap.size j _ _ _ hby5))
          | (go_at_call 62; (with_reducible refine (HCk.out _).mono ?_); rw [KC.out]; rintro e w7 ⟨rfl, hx7⟩; have hbk7 := (hx6.trans' ((hx4.trans' hx5).trans' hx7)).heap' hbox2; have hck7 := (fun j => cell_of_row w7 w.heap.size j _ _ _ hbk7); have hby7 := Ext.heap' ((hx4.trans' hx5).trans' hx7) (heap_alloc_new w2 (.cells #[.int .i64 y.f, .int .i64 y.z, .slice y.a y.n y.c] 83)); have hcy7 := (fun j => cell_of_row w7 w2.heap.size j _ _ _ hby7)))
        go_meet
        exact ⟨((hx6.trans' hx4).trans' hx5).trans' hx7, by rw [HD.out, HSP.out, addD_new HYF.out HKF.out (fun h => by rw [YL.out] at h; cases h.1) (fun h => by rw [KC.out] at h; cases h.2.1)]⟩
      | true =>
        have KC := Lib.hid hkc
        clear hkc
        by_cases hj : y.f + y.z = k.f
        rotate_left
        · obtain ⟨q1, q2⟩ := neI hj
          have HJ := Lib.hid hj
          clear hj
          go_wp2_with (first
            | ((with_reducible refine atSlot 18 ?_); refine wpList_of_wp rfl (owp_ix (o := ⟨some 18, _, _, _, _, _⟩) _ _ rfl Try.elO rfl hr2 (n - 1) rfl (by omega) (by omega) ?_); intro b3 o3 hc3; have hrg3 := od_range HY.out hc3; clear hc3)
            | ((with_reducible refine atSlot 19 ?_); refine wpList_of_wp rfl (wp_load_mid (op := ⟨some 19, _, _, _, _, _⟩) 83 _ rfl b3 o3 rfl y.cells _ hrg3 Try.underlying83 rfl (by kernel_rfl) ?_); simp only [Od.cells])
            | (go_at_call 61; have _t := t1; (with_reducible refine (Literal_any y _ HYL.out).mono ?_); rw [YL.out]; rintro e w4 ⟨rfl, hx4⟩; clear t1; have hbk4 := (hx6.trans' (hx4)).heap' hbox2; have hck4 := (fun j => cell_of_row w4 w.heap.size j _ _ _ hbk4); have hby4 := Ext.heap' (hx4) (heap_alloc_new w2 (.cells #[.int .i64 y.f, .int .i64 y.z, .slice y.a y.n y.c] 83)); have hcy4 := (fun j => cell_of_row w4 w2.heap.size j _ _ _ hby4))
            | (go_at_call 62; have _t := t2; (with_reducible refine (Copies_any y _ HYL.out).mono ?_); rw [YC.out]; rintro e w5 ⟨rfl, hx5⟩; clear t2; have hbk5 := (hx6.trans' (hx4.trans' hx5)).heap' hbox2; have hck5 := (fun j => cell_of_row w5 w.heap.size j _ _ _ hbk5); have hby5 := Ext.heap' (hx4.trans' hx5) (heap_alloc_new w2 (.cells #[.int .i64 y.f, .int .i64 y.z, .slice y.a y.n y.c] 83)); have hcy5 := (fun j => cell_of_row w5 w2.heap.size j _ _ _ hby5))
            | (go_at_call 62; (with_reducible refine (HCk.out _).mono ?_); rw [KC.out]; rintro e w7 ⟨rfl, hx7⟩; have hbk7 := (hx6.trans' ((hx4.trans' hx5).trans' hx7)).heap' hbox2; have hck7 := (fun j => cell_of_row w7 w.heap.size j _ _ _ hbk7); have hby7 := Ext.heap' ((hx4.trans' hx5).trans' hx7) (heap_alloc_new w2 (.cells #[.int .i64 y.f, .int .i64 y.z, .slice y.a y.n y.c] 83)); have hcy7 := (fun j => cell_of_row w7 w2.heap.size j _ _ _ hby7)))
          go_meet
          exact ⟨((hx6.trans' hx4).trans' hx5).trans' hx7, by rw [HD.out, HSP.out, addD_new HYF.out HKF.out (fun h => by rw [YL.out] at h; cases h.1) (fun h => HJ.out h.2.2)]⟩
        · obtain ⟨q1, q2⟩ := eqI hj
          have HJ := Lib.hid hj
          clear hj
          go_wp2_with (first
            | ((with_reducible refine atSlot 18 ?_); refine wpList_of_wp rfl (owp_ix (o := ⟨some 18, _, _, _, _, _⟩) _ _ rfl Try.elO rfl hr2 (n - 1) rfl (by omega) (by omega) ?_); intro b3 o3 hc3; have hrg3 := od_range HY.out hc3; clear hc3)
            | ((with_reducible refine atSlot 19 ?_); refine wpList_of_wp rfl (wp_load_mid (op := ⟨some 19, _, _, _, _, _⟩) 83 _ rfl b3 o3 rfl y.cells _ hrg3 Try.underlying83 rfl (by kernel_rfl) ?_); simp only [Od.cells])
            | (go_at_call 61; have _t := t1; (with_reducible refine (Literal_any y _ HYL.out).mono ?_); rw [YL.out]; rintro e w4 ⟨rfl, hx4⟩; clear t1; have hbk4 := (hx6.trans' (hx4)).heap' hbox2; have hck4 := (fun j => cell_of_row w4 w.heap.size j _ _ _ hbk4); have hby4 := Ext.heap' (hx4) (heap_alloc_new w2 (.cells #[.int .i64 y.f, .int .i64 y.z, .slice y.a y.n y.c] 83)); have hcy4 := (fun j => cell_of_row w4 w2.heap.size j _ _ _ hby4))
            | (go_at_call 62; have _t := t2; (with_reducible refine (Copies_any y _ HYL.out).mono ?_); rw [YC.out]; rintro e w5 ⟨rfl, hx5⟩; clear t2; have hbk5 := (hx6.trans' (hx4.trans' hx5)).heap' hbox2; have hck5 := (fun j => cell_of_row w5 w.heap.size j _ _ _ hbk5); have hby5 := Ext.heap' (hx4.trans' hx5) (heap_alloc_new w2 (.cells #[.int .i64 y.f, .int .i64 y.z, .slice y.a y.n y.c] 83)); have hcy5 := (fun j => cell_of_row w5 w2.heap.size j _ _ _ hby5))
            | (go_at_call 62; (with_reducible refine (HCk.out _).mono ?_); rw [KC.out]; rintro e w7 ⟨rfl, hx7⟩; have hbk7 := (hx6.trans' ((hx4.trans' hx5).trans' hx7)).heap' hbox2; have hck7 := (fun j => cell_of_row w7 w.heap.size j _ _ _ hbk7); have hby7 := Ext.heap' ((hx4.trans' hx5).trans' hx7) (heap_alloc_new w2 (.cells #[.int .i64 y.f, .int .i64 y.z, .slice y.a y.n y.c] 83)); have hcy7 := (fun j => cell_of_row w7 w2.heap.size j _ _ _ hby7); refine Stop.of ?_))
          have hx25 := ((hx6.trans' hx4).trans' hx5).trans' hx7
          have hAk : ∀ w' j, Ext w7 w' → w'.cell? ⟨w.heap.size, j, none⟩ = #[.int .i64 k.f, .int .i64 k.z, .slice a1 k.n c1][j]? := fun w' j hx => cell_of_row _ _ _ _ _ _ (hx.heap' hbk7)
          have hAy : ∀ w' j, Ext w7 w' → w'.cell? ⟨w2.heap.size, j, none⟩ = #[.int .i64 y.f, .int .i64 y.z, .slice y.a y.n y.c][j]? := fun w' j hx => cell_of_row _ _ _ _ _ _ (hx.heap' hby7)
          have hr5 := hr2.ext hx25
          have E0 : Ext w7 w7.drew := Ext.drew' _
          have hwz : IntKind.i64.wrap (y.z + k.z) = y.z + k.z := by rw [IntKind.wrap_i64]; omega
          have hone : ∀ u ∈ #[Value.int .i64 y.f, .int .i64 (y.z + k.z), .slice none 0 0].toList, u.oneCell' = true := fun u hu => od_oneCell [⟨y.f, y.z + k.z, none, 0, 0, []⟩] u (by simpa [Od.cells] using hu)
          clear hck4 hcy4 hbk4 hby4 hck5 hcy5 hbk5 hby5 hbk7 hby7
          refine Stop.out ?_
          go_wp2
          clear hck7 hcy7
          refine wp_region_e [] (.qs [0, 1, 2, 4, 5, 6, 7, 8, 9, 10, 11] (.alt 3 (.l 12 (.l 13 (.qs [14] .nil))) (.alt 12 (.l 3 (.l 13 (.qs [14] .nil))) .stop))) (by kernel_rfl) (by kernel_rfl) ?_
          iterate 2 ((refine wpY_q rfl rfl _ (fun w' hx' => by go_simp; try rfl) ?_; go_simp))
          refine wpY_sl_hi rfl rfl (.tmp 55) (.tmp 56) rfl Try.elO rfl (fun w' h => hr5.ext h) (n - 1) rfl (by omega) (by omega) ?_
          intro a6 hr6
          iterate 8 ((refine wpY_q rfl rfl _ (fun w' hx' => by go_simp; try rfl) ?_; go_simp))
          refine wpY_alt rfl rfl (owp_clone _ _ rfl Try.elO rfl rfl (hr6 _ E0) (fun u hu => od_oneCell L u (List.mem_of_mem_take hu)) (by omega) ?_) (wpY_alt rfl rfl ?_ wpY_stop)
          · intro a8 c8 w8 ho8 hx8
            have E8 := E0.trans' hx8
            refine ⟨fun _ => E8, ?_⟩
            go_simp
            refine wpY_l rfl rfl ?_
            go_simp
            have hal := Ext.alloc' w8 (.cells #[.int .i64 y.f, .int .i64 (y.z + k.z), .slice none 0 0] 83)
            have E9 := E8.trans' hal
            have ho8' := own_ext ho8 hal
            refine ⟨E9, ?_⟩
            refine wpY_l rfl rfl (owp_app _ _ rfl Try.elO rfl ho8' rfl (Row.new w8 #[.int .i64 y.f, .int .i64 (y.z + k.z), .slice none 0 0] 83 1 3 rfl (by decide)) hone (by omega) (by unfold maxLen; omega) E9.size ?_)
            intro a10 c10 w10 ho10 hg10
            have E10 : Ext w7 w10 := below_app E9 ho8' hg10 E9.size
            refine ⟨fun _ => E10, ?_⟩
            go_simp
            ((refine wpY_q rfl rfl _ (fun w' hx' => by go_simp; try rfl) ?_; go_simp))
            refine wpY_nil ?_
            clear hAk hAy hwz
            go_wp2
            go_ret
            rw [od_take] at ho10
            have hxe := hx25.trans' E10
            have hlt := (List.take_subset (n - 1) L)
            refine ⟨a10, n - 1 + 1, c10, L.take (n - 1) ++ [⟨y.f, y.z + k.z, none, 0, 0, []⟩], rfl, ops_of_own (by rw [List.flatMap_append, List.flatMap_cons, List.flatMap_nil, List.append_nil]; exact ho10) (fun x hx => ?_), ?_, fun x hx => ?_, hx2.trans' hxe⟩
            · rcases List.mem_append.1 hx with h | h
              · exact (hL2.2.2 x (hlt h)).ext hxe
              · obtain rfl : x = ⟨y.f, y.z + k.z, none, 0, 0, []⟩ := by simpa using h
                exact ⟨Bytes.nil _, Nat.zero_le _, by unfold i64B; show -9223372036854775808 ≤ y.f ∧ y.f ≤ _; omega, by unfold i64B; show -9223372036854775808 ≤ y.z + k.z ∧ y.z + k.z ≤ _; omega⟩
            · rw [HD.out, HSP.out, addD_copy YC.out KC.out HJ.out, List.map_append]; rfl
            · rcases List.mem_append.1 hx with h | h
              · have := hLX x (hlt h); omega
              · obtain rfl : x = ⟨y.f, y.z + k.z, none, 0, 0, []⟩ := by simpa using h
                exact Nat.zero_le _
          · go_simp
            have hal := Ext.alloc' w7.drew (.cells #[.int .i64 y.f, .int .i64 (y.z + k.z), .slice none 0 0] 83)
            have E8 := E0.trans' hal
            refine ⟨E8, ?_⟩
            refine wpY_l rfl rfl (owp_clone _ _ rfl Try.elO rfl rfl (hr6 _ E8) (fun u hu => od_oneCell L u (List.mem_of_mem_take hu)) (by omega) ?_)
            intro a8 c8 w8 ho8 hx8
            have E9 := E8.trans' hx8
            have ho8' := own_base ho8 E8.size
            refine ⟨fun _ => E9, ?_⟩
            go_simp
            refine wpY_l rfl rfl (owp_app _ _ rfl Try.elO rfl ho8' rfl ((Row.new w7.drew #[.int .i64 y.f, .int .i64 (y.z + k.z), .slice none 0 0] 83 1 3 rfl (by decide)).ext hx8) hone (by omega) (by unfold maxLen; omega) E9.size ?_)
            intro a10 c10 w10 ho10 hg10
            have E10 : Ext w7 w10 := below_app E9 ho8' hg10 E9.size
            refine ⟨fun _ => E10, ?_⟩
            go_simp
            ((refine wpY_q rfl rfl _ (fun w' hx' => by go_simp; try rfl) ?_; go_simp))
            refine wpY_nil ?_
            clear hAk hAy hwz
            go_wp2
            go_ret
            rw [od_take] at ho10
            have hxe := hx25.trans' E10
            have hlt := (List.take_subset (n - 1) L)
            refine ⟨a10, n - 1 + 1, c10, L.take (n - 1) ++ [⟨y.f, y.z + k.z, none, 0, 0, []⟩], rfl, ops_of_own (by rw [List.flatMap_append, List.flatMap_cons, List.flatMap_nil, List.append_nil]; exact ho10) (fun x hx => ?_), ?_, fun x hx => ?_, hx2.trans' hxe⟩
            · rcases List.mem_append.1 hx with h | h
              · exact (hL2.2.2 x (hlt h)).ext hxe
              · obtain rfl : x = ⟨y.f, y.z + k.z, none, 0, 0, []⟩ := by simpa using h
                exact ⟨Bytes.nil _, Nat.zero_le _, by unfold i64B; show -9223372036854775808 ≤ y.f ∧ y.f ≤ _; omega, by unfold i64B; show -9223372036854775808 ≤ y.z + k.z ∧ y.z + k.z ≤ _; omega⟩
            · rw [HD.out, HSP.out, addD_copy YC.out KC.out HJ.out, List.map_append]; rfl
            · rcases List.mem_append.1 hx with h | h
              · have := hLX x (hlt h); omega
              · obtain rfl : x = ⟨y.f, y.z + k.z, none, 0, 0, []⟩ := by simpa using h
                exact Nat.zero_le _
  case rest =>
    clear hz1 hz2 hz3
    obtain ⟨hx3, hD3⟩ := hcut
    rename World => w3
    have HD3 := Lib.hid hD3
    clear hD3
    have hr3 := hr2.ext hx3
    have hbox3 := hx3.heap' hbox2
    have hB3 : ∀ w', Ext w3 w' → w'.rangeAt w.heap.size 0 (⟨k.f, k.z, a1, k.n, c1, k.l⟩ : Od).cells := fun w' h => range_of_heap (h.heap' hbox3)
    have hone : ∀ u ∈ (⟨k.f, k.z, a1, k.n, c1, k.l⟩ : Od).cells, u.oneCell' = true := fun u hu => od_oneCell [⟨k.f, k.z, a1, k.n, c1, k.l⟩] u (by simpa using hu)
    go_wp2
    refine wp_region_e [] (.qs [0, 2] (.alt 1 (.l 3 (.l 4 (.qs [5] .nil))) (.alt 3 (.l 1 (.l 4 (.qs [5] .nil))) .stop))) (by kernel_rfl) (by kernel_rfl) ?_
    have E0 : Ext w3 w3.drew := Ext.drew' _
    refine wpY_midA (Meets [4, 69, 70, 71, 72, 73] (MidO w3 (n + 1) (L.flatMap Od.cells ++ [.int .i64 k.f, .int .i64 k.z, .slice a1 k.n c1]))) ?_ ?_
    · ((refine wpY_q rfl rfl _ (fun w' hx' => by go_simp; try rfl) ?_; go_simp))
      refine wpY_ld rfl rfl (.tmp 3) rfl w.heap.size 0 rfl (⟨k.f, k.z, a1, k.n, c1, k.l⟩ : Od).cells _ hB3 Try.underlying83 rfl (by kernel_rfl) ?_
      simp only [Od.cells]
      refine wpY_alt rfl rfl (owp_clone _ _ rfl Try.elO rfl rfl (hr3.ext E0) (od_oneCell L) (by omega) ?_) (wpY_alt rfl rfl ?_ wpY_stop)
      · intro a4 c4 w4 ho4 hx4
        have E4 := E0.trans' hx4
        refine ⟨fun _ => E4, ?_⟩
        go_simp
        refine wpY_l rfl rfl ?_
        go_simp
        have E5 := E4.trans' (Ext.alloc' w4 (.cells #[.int .i64 k.f, .int .i64 k.z, .slice a1 k.n c1] 83))
        have ho4' := own_ext ho4 (Ext.alloc' w4 (.cells #[.int .i64 k.f, .int .i64 k.z, .slice a1 k.n c1] 83))
        refine ⟨E5, ?_⟩
        refine wpY_l rfl rfl (owp_app _ _ rfl Try.elO rfl ho4' rfl (Row.new w4 #[.int .i64 k.f, .int .i64 k.z, .slice a1 k.n c1] 83 1 3 rfl (by decide)) hone (by omega) (by unfold maxLen; omega) E5.size ?_)
        intro a5 c5 w5 ho5 hg5
        have E6 : Ext w3 w5 := below_app E5 ho4' hg5 E5.size
        refine ⟨fun _ => E6, ?_⟩
        go_simp
        ((refine wpY_q rfl rfl _ (fun w' hx' => by go_simp; try rfl) ?_; go_simp))
        exact wpY_nil (Meets.mk (by kernel_rfl) ⟨c5, a5, rfl, ho5, E6⟩)
      · go_simp
        have E4 := E0.trans' (Ext.alloc' w3.drew (.cells #[.int .i64 k.f, .int .i64 k.z, .slice a1 k.n c1] 83))
        refine ⟨E4, ?_⟩
        refine wpY_l rfl rfl (owp_clone _ _ rfl Try.elO rfl rfl (hr3.ext E4) (od_oneCell L) (by omega) ?_)
        intro a4 c4 w4 ho4 hx4
        have E5 := E4.trans' hx4
        have ho4' := own_base ho4 E4.size
        refine ⟨fun _ => E5, ?_⟩
        go_simp
        refine wpY_l rfl rfl (owp_app _ _ rfl Try.elO rfl ho4' rfl ((Row.new w3.drew #[.int .i64 k.f, .int .i64 k.z, .slice a1 k.n c1] 83 1 3 rfl (by decide)).ext hx4) hone (by omega) (by unfold maxLen; omega) E5.size ?_)
        intro a5 c5 w5 ho5 hg5
        have E6 : Ext w3 w5 := below_app E5 ho4' hg5 E5.size
        refine ⟨fun _ => E6, ?_⟩
        go_simp
        ((refine wpY_q rfl rfl _ (fun w' hx' => by go_simp; try rfl) ?_; go_simp))
        exact wpY_nil (Meets.mk (by kernel_rfl) ⟨c5, a5, rfl, ho5, E6⟩)
    · rintro a' w9 ⟨v, rfl, c9, a9, hv4, ho9, hx9⟩
      simp only [fill, hv4]
      go_simp
      clear hv4 hB3
      go_wp2
      go_ret
      have hx39 := hx3.trans' hx9
      refine ⟨a9, n + 1, c9, L ++ [⟨k.f, k.z, a1, k.n, c1, k.l⟩], rfl, ops_of_own (by rw [List.flatMap_append, List.flatMap_cons, List.flatMap_nil, List.append_nil]; exact ho9) (fun x hx => ?_), by rw [HD3.out, List.map_append]; rfl, fun x hx => ?_, hx2.trans' hx39⟩
      · rcases List.mem_append.1 hx with h | h
        · exact (hL2.2.2 x h).ext hx39
        · obtain rfl : x = ⟨k.f, k.z, a1, k.n, c1, k.l⟩ := by simpa using h
          exact hkI.ext hx39
      · rcases List.mem_append.1 hx with h | h
        · have := hLX x h; omega
        · obtain rfl : x = ⟨k.f, k.z, a1, k.n, c1, k.l⟩ := by simpa using h
          show k.n ≤ X + X; omega
end Go.Proofs.Ytkhjeeaojlaagaa
