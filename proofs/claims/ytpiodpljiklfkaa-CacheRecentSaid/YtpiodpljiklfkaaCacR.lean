/-
  Manifests whose chunks are valid: Check on both sides.
-/
import Derived.Test.YtpiodpljiklfkaaCacQ
import Derived.Test.YtpiodpljiklfkaaCacK
namespace Go.Proofs.Ytpiodpljiklfkaa
open Go.RowKit

/-- IDs of small chunks. -/
def Ids1 (K : List (Nat × Int)) : Prop := ∀ k ∈ K, k.1 < 2305843009213693951 ∧ 1 ≤ k.2 ∧ k.2 ≤ 8192
def sumK : List (Nat × Int) → Int
  | [] => 0
  | k :: K => k.2 + sumK K
theorem sumK_app (A B : List (Nat × Int)) : sumK (A ++ B) = sumK A + sumK B := by
  induction A with
  | nil => simp [sumK]
  | cons x A ih => simp only [List.cons_append, sumK, ih]; omega
theorem sumK_le {K : List (Nat × Int)} (h : Ids1 K) : 0 ≤ sumK K ∧ sumK K ≤ 8192 * K.length := by
  induction K with
  | nil => simp [sumK]
  | cons x K ih =>
    have h1 := h x (List.mem_cons_self ..)
    have h2 := ih fun k hk => h k (List.mem_cons_of_mem _ hk)
    simp only [sumK, List.length_cons]
    omega
def chkV (K : List (Nat × Int)) (S : Int) : Int := if S = sumK K then 0 else 252
def ChRel (w2 : World) (n : Nat) (K : List (Nat × Int)) (S i : Value) (wr : World) : Prop := ∃ j : Nat, i = .int .i64 j ∧ j ≤ n ∧ S = .int .i64 (sumK (K.take j)) ∧ Ext w2 wr

set_option maxRecDepth 100000 in
set_option maxHeartbeats 4000000 in
theorem mCheck_any (S : Int) (a : Option Addr) (n c : Nat) (K : List (Nat × Int)) (w : World) (hr : Row w a n c 2 (K.flatMap idCells)) (hn : K.length = n) (hn5 : n ≤ 100) (hK : Ids1 K) :
    Calls Try.prog 46 #[.agg #[.int .i64 S, .slice a n c]] w (NewNone (.int .i64 (chkV K S)) w) := by
  have hx1 := Ext.alloc' w (.cells #[.int .i64 S, .slice a n c] 60)
  have hh1 := heap_alloc_new w (.cells #[.int .i64 S, .slice a n c] 60)
  have HX := Lib.hid hx1
  have HR := Lib.hid (hr.ext hx1)
  have HL := Lib.hid hn
  have HK := Lib.hid hK
  clear hr hn hK
  go_enter Try.func46, Try.ntmps46
  go_upto_region 1 with fail
  generalize w.alloc (.cells #[.int .i64 S, .slice a n c] 60) = w2 at hx1 hh1 HX HR ⊢
  have HB := Lib.hid fun w' (h : Ext w2 w') => cell_of_row w' w.heap.size 1 _ _ _ (h.heap' hh1)
  have HB0 := Lib.hid fun w' (h : Ext w2 w') => cell_of_row w' w.heap.size 0 _ _ _ (h.heap' hh1)
  have hcb := HB.out w2 (Below.refl _ _)
  clear hx1 hh1
  go_wp2
  go_loopw [3, 13] (ChRel w2 n K) (fun _ i _ => n - (intOf i).toNat)
  case atStart => exact ⟨0, rfl, Nat.zero_le _, rfl, Below.refl _ _⟩
  case round =>
    obtain ⟨j, rfl, hj, rfl, hx⟩ := hrel
    rename World => w3
    by_cases hjn : j < n
    · obtain ⟨⟨k1, k2⟩, hkk⟩ : ∃ kk, K[j]? = some kk := ⟨_, List.getElem?_eq_getElem (by have := HL.out; omega)⟩
      obtain ⟨hk1, hk2, hk3⟩ : k1 < 2305843009213693951 ∧ 1 ≤ k2 ∧ k2 ≤ 8192 := HK.out _ (List.mem_of_getElem? hkk)
      have htk : sumK (K.take (j + 1)) = sumK (K.take j) + k2 := by
        rw [List.take_add_one, hkk, sumK_app]
        show _ + (k2 + 0) = _
        omega
      have hbd := sumK_le (K := K.take j) fun k hk => HK.out k (List.mem_of_mem_take hk)
      have hlt : (K.take j).length ≤ 100 := by rw [List.length_take]; omega
      obtain ⟨T, hT⟩ : ∃ T, T = sumK (K.take j) := ⟨_, rfl⟩
      rw [← hT] at htk hbd ⊢
      have hT0 : 0 ≤ T := hbd.1
      have hT1 : T ≤ 819200 := by omega
      have HKK := Lib.hid hkk
      have HTK := Lib.hid htk
      have HR3 := Lib.hid (HR.out.ext hx)
      have HV := Lib.hid fun w' => Valid_ok k1 k2 w' hk1 hk2 (by omega)
      have hal := Ext.alloc' w3 (.cells #[.int .u64 0, .int .i64 0] 45)
      have hh4 := setRow_heap (w3.alloc (.cells #[.int .u64 0, .int .i64 0] 45)) w3.heap.size _ #[.int .u64 k1, .int .i64 k2] _ _ (heap_alloc_new w3 _)
      have hx4 : Ext w3 ((w3.alloc (.cells #[.int .u64 0, .int .i64 0] 45)).setRow w3.heap.size #[.int .u64 k1, .int .i64 k2]) := hal.setRow (Nat.le_refl _)
      generalize hw4 : (w3.alloc (.cells #[.int .u64 0, .int .i64 0] 45)).setRow w3.heap.size #[.int .u64 k1, .int .i64 k2] = w4 at hh4 hx4
      have HW4 := Lib.hid hw4
      have hh3 := Lib.hid (heap_alloc_new w3 (.cells #[.int .u64 0, .int .i64 0] 45))
      have r4 := range_of_heap2 hh4
      have HH4 := Lib.hid hh4
      clear hw4 hal hkk htk hbd hlt hT hk1 hh4
      go_wp2_with (first
        | ((with_reducible refine atSlot 15 ?_); refine wpList_of_wp rfl (owp_ix (o := ⟨some 15, _, _, _, _, _⟩) _ _ rfl Try.elId rfl HR3.out j rfl rfl hjn ?_); intro b3 o3 hc3; have hid := id_range HKK.out hc3; clear hc3)
        | ((with_reducible refine atSlot 16 ?_); refine wpList_of_wp rfl (wp_load_mid (op := ⟨some 16, _, _, _, _, _⟩) 45 _ rfl b3 o3 rfl [.int .u64 k1, .int .i64 k2] _ hid Try.underlying45 rfl (by kernel_rfl) ?_); clear hid)
        | ((with_reducible refine atStore 5 ?_); refine wpList_of_wp rfl (wp_store_row (o := ⟨none, _, _, _, _, _⟩) _ _ _ rfl w3.heap.size #[.int .u64 k1, .int .i64 k2] rfl rfl _ _ hh3.out (by kernel_rfl) rfl (by simp [Value.oneCell']) ?_); rw [HW4.out])
        | ((with_reducible refine atSlot 17 ?_); refine wpList_of_wp rfl (wp_load_mid (op := ⟨some 17, _, _, _, _, _⟩) 45 _ rfl w3.heap.size 0 rfl [.int .u64 k1, .int .i64 k2] _ r4 Try.underlying45 rfl (by kernel_rfl) ?_); clear r4)
        | (go_at_call 62; (with_reducible refine (HV.out _).mono ?_); rintro en w5 ⟨rfl, hx5⟩; have hc5 := cell_of_row w5 w3.heap.size 1 _ _ _ (hx5.heap' HH4.out))
        | fail)
      go_roundw
      case rel => exact ⟨j + 1, by go_num, hjn, by rw [HTK.out], hx.trans' (hx4.trans' hx5)⟩
      case measure => simp [intOf]; omega
    · obtain rfl : j = n := by omega
      have hcb3 := HB0.out w3 hx
      have hfull : K.take j = K := List.take_of_length_le (by have := HL.out; omega)
      have hbd := sumK_le HK.out
      rw [HL.out] at hbd
      rw [hfull]
      obtain ⟨T, hT⟩ : ∃ T, T = sumK K := ⟨_, rfl⟩
      rw [← hT] at hbd ⊢
      have hT1 : T ≤ 1048576 := by omega
      have hd : decide (T < S) = decide (T < S) := rfl
      clear hfull hbd hd
      by_cases he : S = T
      · have hv : chkV K S = 0 := by unfold chkV; rw [if_pos (by rw [he, hT])]
        have HVV := Lib.hid hv
        have hs1 : decide (S > 1048576) = false := decide_eq_false (by omega)
        have hs2 : decide ((1048576 : Int) < S) = false := decide_eq_false (by omega)
        obtain ⟨q1, q2⟩ := eqI he
        clear hv he hT hj hjn
        go_wp2
        go_ret
        exact ⟨by rw [HVV.out]; rfl, HX.out.trans' hx⟩
      · have hv : chkV K S = 252 := by unfold chkV; rw [if_neg (by rw [← hT]; exact he)]
        have HVV := Lib.hid hv
        obtain ⟨q1, q2⟩ := neI he
        clear hv he hT hj hjn
        go_wp2
        go_ret
        exact ⟨by rw [HVV.out]; rfl, HX.out.trans' hx⟩

set_option maxRecDepth 100000 in
set_option maxHeartbeats 4000000 in
theorem refCheck25_any (S : Int) (a : Option Addr) (n c : Nat) (K : List (Nat × Int)) (w : World) (hr : Row w a n c 2 (K.flatMap idCells)) (hn : K.length = n) (hn5 : n ≤ 100) (hK : Ids1 K) :
    Calls Try.prog 65 #[.agg #[.int .i64 S, .slice a n c]] w (NewNone (.int .i64 (chkV K S)) w) := by
  have hx1 := Ext.alloc' w (.cells #[.int .i64 S, .slice a n c] 60)
  have hh1 := heap_alloc_new w (.cells #[.int .i64 S, .slice a n c] 60)
  have HX := Lib.hid hx1
  have HR := Lib.hid (hr.ext hx1)
  have HL := Lib.hid hn
  have HK := Lib.hid hK
  clear hr hn hK
  go_enter Try.func65, Try.ntmps65
  go_upto_region 1 with fail
  generalize w.alloc (.cells #[.int .i64 S, .slice a n c] 60) = w2 at hx1 hh1 HX HR ⊢
  have HB := Lib.hid fun w' (h : Ext w2 w') => cell_of_row w' w.heap.size 1 _ _ _ (h.heap' hh1)
  have HB0 := Lib.hid fun w' (h : Ext w2 w') => cell_of_row w' w.heap.size 0 _ _ _ (h.heap' hh1)
  have hcb := HB.out w2 (Below.refl _ _)
  clear hx1 hh1
  go_wp2
  go_loopw [3, 4] (ChRel w2 n K) (fun _ i _ => n - (intOf i).toNat)
  case atStart => exact ⟨0, rfl, Nat.zero_le _, rfl, Below.refl _ _⟩
  case round =>
    obtain ⟨j, rfl, hj, rfl, hx⟩ := hrel
    rename World => w3
    have hcbj := HB.out w3 hx
    by_cases hjn : j < n
    · obtain ⟨⟨k1, k2⟩, hkk⟩ : ∃ kk, K[j]? = some kk := ⟨_, List.getElem?_eq_getElem (by have := HL.out; omega)⟩
      obtain ⟨hk1, hk2, hk3⟩ : k1 < 2305843009213693951 ∧ 1 ≤ k2 ∧ k2 ≤ 8192 := HK.out _ (List.mem_of_getElem? hkk)
      have htk : sumK (K.take (j + 1)) = sumK (K.take j) + k2 := by
        rw [List.take_add_one, hkk, sumK_app]
        show _ + (k2 + 0) = _
        omega
      have hbd := sumK_le (K := K.take j) fun k hk => HK.out k (List.mem_of_mem_take hk)
      have hlt : (K.take j).length ≤ 100 := by rw [List.length_take]; omega
      obtain ⟨T, hT⟩ : ∃ T, T = sumK (K.take j) := ⟨_, rfl⟩
      rw [← hT] at htk hbd ⊢
      have hT0 : 0 ≤ T := hbd.1
      have hT1 : T ≤ 819200 := by omega
      have HKK := Lib.hid hkk
      have HTK := Lib.hid htk
      have HR3 := Lib.hid (HR.out.ext hx)
      have HV := Lib.hid fun w' => refValid_ok k1 k2 w' hk1 hk2 (by omega)
      have hal := Ext.alloc' w3 (.cells #[.int .u64 0, .int .i64 0] 45)
      have hh4 := setRow_heap (w3.alloc (.cells #[.int .u64 0, .int .i64 0] 45)) w3.heap.size _ #[.int .u64 k1, .int .i64 k2] _ _ (heap_alloc_new w3 _)
      have hx4 : Ext w3 ((w3.alloc (.cells #[.int .u64 0, .int .i64 0] 45)).setRow w3.heap.size #[.int .u64 k1, .int .i64 k2]) := hal.setRow (Nat.le_refl _)
      generalize hw4 : (w3.alloc (.cells #[.int .u64 0, .int .i64 0] 45)).setRow w3.heap.size #[.int .u64 k1, .int .i64 k2] = w4 at hh4 hx4
      have HW4 := Lib.hid hw4
      have hh3 := Lib.hid (heap_alloc_new w3 (.cells #[.int .u64 0, .int .i64 0] 45))
      have r4 := range_of_heap2 hh4
      have HH4 := Lib.hid hh4
      clear hw4 hal hkk htk hbd hlt hT hk1 hh4
      go_wp2_with (first
        | ((with_reducible refine atSlot 20 ?_); refine wpList_of_wp rfl (owp_ix (o := ⟨some 20, _, _, _, _, _⟩) _ _ rfl Try.elId rfl HR3.out j rfl rfl hjn ?_); intro b3 o3 hc3; have hid := id_range HKK.out hc3; clear hc3)
        | ((with_reducible refine atSlot 21 ?_); refine wpList_of_wp rfl (wp_load_mid (op := ⟨some 21, _, _, _, _, _⟩) 45 _ rfl b3 o3 rfl [.int .u64 k1, .int .i64 k2] _ hid Try.underlying45 rfl (by kernel_rfl) ?_); clear hid)
        | ((with_reducible refine atStore 5 ?_); refine wpList_of_wp rfl (wp_store_row (o := ⟨none, _, _, _, _, _⟩) _ _ _ rfl w3.heap.size #[.int .u64 k1, .int .i64 k2] rfl rfl _ _ hh3.out (by kernel_rfl) rfl (by simp [Value.oneCell']) ?_); rw [HW4.out])
        | ((with_reducible refine atSlot 22 ?_); refine wpList_of_wp rfl (wp_load_mid (op := ⟨some 22, _, _, _, _, _⟩) 45 _ rfl w3.heap.size 0 rfl [.int .u64 k1, .int .i64 k2] _ r4 Try.underlying45 rfl (by kernel_rfl) ?_); clear r4)
        | (go_at_call 68; (with_reducible refine (HV.out _).mono ?_); rintro en w5 ⟨rfl, hx5⟩; have hc5 := cell_of_row w5 w3.heap.size 1 _ _ _ (hx5.heap' HH4.out))
        | fail)
      go_roundw
      case rel => exact ⟨j + 1, by go_num, hjn, by rw [HTK.out], hx.trans' (hx4.trans' hx5)⟩
      case measure => simp [intOf]; omega
    · obtain rfl : j = n := by omega
      have hcb3 := HB0.out w3 hx
      have hfull : K.take j = K := List.take_of_length_le (by have := HL.out; omega)
      have hbd := sumK_le HK.out
      rw [HL.out] at hbd
      rw [hfull]
      obtain ⟨T, hT⟩ : ∃ T, T = sumK K := ⟨_, rfl⟩
      rw [← hT] at hbd ⊢
      have hT1 : T ≤ 1048576 := by omega
      have hd : decide (T < S) = decide (T < S) := rfl
      clear hfull hbd hd
      by_cases he : S = T
      · have hv : chkV K S = 0 := by unfold chkV; rw [if_pos (by rw [he, hT])]
        have HVV := Lib.hid hv
        have hs1 : decide (S > 1048576) = false := decide_eq_false (by omega)
        have hs2 : decide ((1048576 : Int) < S) = false := decide_eq_false (by omega)
        obtain ⟨q1, q2⟩ := eqI he
        clear hv he hT hj hjn
        go_wp2
        go_ret
        exact ⟨by rw [HVV.out]; rfl, HX.out.trans' hx⟩
      · have hv : chkV K S = 252 := by unfold chkV; rw [if_neg (by rw [← hT]; exact he)]
        have HVV := Lib.hid hv
        obtain ⟨q1, q2⟩ := neI he
        clear hv he hT hj hjn
        go_wp2
        go_ret
        exact ⟨by rw [HVV.out]; rfl, HX.out.trans' hx⟩
end Go.Proofs.Ytpiodpljiklfkaa
