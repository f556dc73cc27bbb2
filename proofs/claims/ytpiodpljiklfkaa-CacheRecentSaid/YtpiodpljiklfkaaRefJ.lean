/-
  The reference's caches: Pin. (Printed by refj.py.)
-/
import Derived.Test.YtpiodpljiklfkaaRefI
import Derived.Test.YtpiodpljiklfkaaFpR
import Derived.Test.YtpiodpljiklfkaaCacM
namespace Go.Proofs.Ytpiodpljiklfkaa
open Go.RowKit
theorem re_set {L : List Re} {i : Nat} {y : Re} (p : Nat) (hy : L[i]? = some y) : (L.flatMap Re.cells).set (i * 4 + 3) (.int .i64 p) = (L.set i { y with p := p }).flatMap Re.cells := by
  induction L generalizing i with
  | nil => cases hy
  | cons x L ih =>
    cases i with
    | zero => cases hy; rfl
    | succ i =>
      rw [List.set_cons_succ, List.flatMap_cons, List.flatMap_cons, ← ih (i := i) (by simpa using hy), List.set_append_right _ _ (by simp [Re.cells]; omega)]
      congr 2
      simp [Re.cells]
      omega
theorem setL_en {L : List Re} {i p : Nat} {y : Re} (hy : L[i]? = some y) : (L.set i { y with p := p }).map Re.en = setP (L.map Re.en) i p := by
  unfold setP
  rw [List.getElem?_map, hy, List.map_set]
  rfl
/-- What the reference's Pin answers. -/
def RFlagO (w : World) (B room : Nat) (r : List En × Bool) (en : Ending) (w' : World) : Prop :=
  ∃ (a : Option Addr) (n c : Nat) (L : List Re), en = .returned (.tuple #[.agg #[.int .i64 room, .slice a n c], .bool r.2]) ∧ Rc w' B room a n c L ∧ L.map Re.en = r.1 ∧ Ext w w'
/-- A new box with a cache whose row is new, too. -/
def RcMid (w3 : World) (room n : Nat) (L : List Re) (v : Nat → Value) (w5 : World) : Prop :=
  ∃ (b c5 : Nat) (a5 : Option Addr), v 9 = .pointer (some ⟨b, 0, none⟩) ∧ w5.heap[b]? = some (.cells #[.int .i64 room, .slice a5 n c5] 28 (0, 0)) ∧ w3.heap.size ≤ b ∧ w5.ownsRow w3.heap.size 106 4 (.slice a5 n c5) n (L.flatMap Re.cells) ∧ Ext w3 w5

set_option maxRecDepth 100000 in
set_option maxHeartbeats 8000000 in
theorem refPin38_any (B room : Nat) (a : Option Addr) (n c : Nat) (L : List Re) (s : Nat) (z : Int) (w : World) (h : Rc w B room a n c L) (hB : B ≤ w.heap.size) :
    Calls Try.prog 49 #[.agg #[.int .i64 room, .slice a n c], .agg #[.int .u64 s, .int .i64 z], .int .i64 (1)] w (RFlagO w B room (pinC (L.map Re.en) (s, z))) := by
  have hln := h.len
  have hfew := h.few
  have HL := Lib.hid hln
  have HH := Lib.hid h
  have HBB := Lib.hid hB
  obtain ⟨hx1, hh1, hh2, hh3⟩ := boxed3_facts w room a n c s z
  have HX := Lib.hid hx1
  have HR := Lib.hid (h.ext hx1)
  clear hln h hB
  go_enter Try.func49, Try.ntmps49
  go_upto_region 1 with fail
  change Code.wp _ _ _ _ (boxed3 w room a n c s z)
  generalize boxed3 w room a n c s z = w2 at hx1 hh1 hh2 hh3 HX HR ⊢
  have r1 := range_of_heap2 hh1
  have r2 := range_of_heap2 hh2
  have HH1 := Lib.hid hh1
  have HH3 := Lib.hid hh3
  clear hx1 hh1 hh2 hh3
  go_upto_region 2 with (first
    | ((with_reducible refine atSlot 10 ?_); refine wpList_of_wp rfl (wp_load_mid (op := ⟨some 10, _, _, _, _, _⟩) 28 _ rfl w.heap.size 0 rfl [.int .i64 room, .slice a n c] _ r1 Try.underlying28 rfl (by kernel_rfl) ?_); clear r1)
    | ((with_reducible refine atSlot 11 ?_); refine wpList_of_wp rfl (wp_load_mid (op := ⟨some 11, _, _, _, _, _⟩) 45 _ rfl (w.heap.size + 1) 0 rfl [.int .u64 s, .int .i64 z] _ r2 Try.underlying45 rfl (by kernel_rfl) ?_); clear r2)
    | (go_at_call 50; (with_reducible refine (At38_any B room a n c L s z _ HR.out).mono ?_); rintro en w3 ⟨rfl, hx3⟩)
    | fail)
  have hz2 := HX.out.size
  have hz3 := hx3.size
  have hh1 := hx3.heap' HH1.out
  have hh3 := hx3.heap' HH3.out
  have hrg := range_of_heap2 hh1
  have hcb := cell_of_row w3 w.heap.size 1 _ _ _ hh1
  have HX3 := Lib.hid (HX.out.trans' hx3)
  have HF := Lib.hid (setRow_heap w3 (w.heap.size + 1 + 1) _ #[.int .i64 room, .slice a n c] _ _ hh3)
  have HXF := Lib.hid (HX3.out.setRow (g := w.heap.size + 1 + 1) (cs := #[.int .i64 room, .slice a n c]) (by omega))
  cases hat : atF (s, z) (L.map Re.en) with
  | none =>
    have hv : pinC (L.map Re.en) (s, z) = (L.map Re.en, false) := by unfold pinC; rw [hat]
    rw [atI_none hat]
    have HV := Lib.hid hv
    clear hat hv hh1 hcb
    go_wp2_with (first
      | ((with_reducible refine atSlot 41 ?_); refine wpList_of_wp rfl (wp_load_mid (op := ⟨some 41, _, _, _, _, _⟩) 28 _ rfl w.heap.size 0 rfl [.int .i64 room, .slice a n c] _ hrg Try.underlying28 rfl (by kernel_rfl) ?_); clear hrg)
      | ((with_reducible refine atStore 6 ?_); refine wpList_of_wp rfl (wp_store_row (o := ⟨none, _, _, _, _, _⟩) _ _ _ rfl (w.heap.size + 1 + 1) #[.int .i64 room, .slice a n c] rfl rfl _ _ hh3 (by kernel_rfl) rfl (by simp [Value.oneCell']) ?_))
      | fail)
    refine bodyPost_ret (results_c1 (ty := 28) rfl _ (w.heap.size + 1 + 1) [.int .i64 room, .slice a n c] _ rfl (range_of_heap2 HF.out) Try.underlying28 rfl (by kernel_rfl)) rfl ?_
    rw [HV.out]
    exact ⟨a, n, c, L, rfl, HH.out.ext HXF.out, rfl, HXF.out⟩
  | some i =>
    obtain ⟨y, hy, -⟩ := re_at hat
    have hyE : (L.map Re.en)[i]? = some y.en := by rw [List.getElem?_map, hy]; rfl
    have hin : i < n := by have := (List.getElem?_eq_some_iff.1 hy).1; have := HL.out; omega
    have hk := Re.keys HH.out (List.mem_of_getElem? hy)
    have hyp := hk.2.2.2.2
    rw [atI_some hat]
    have HY := Lib.hid hy
    have HR3 := Lib.hid (HR.out.ext hx3)
    clear hk hh1
    by_cases hc : 1024 ≤ y.p
    · have hv : pinC (L.map Re.en) (s, z) = (L.map Re.en, false) := by
        unfold pinC
        rw [hat]
        simp only
        rw [hyE]
        simp only
        rw [if_pos (show 1024 ≤ y.en.p from hc)]
      have HV := Lib.hid hv
      have hd1 : decide ((y.p : Int) ≥ 1024) = true := decide_eq_true (by omega)
      have hrow := HR3.out.row
      clear hat hv hc hyE
      go_wp2_with (first
        | ((with_reducible refine atSlot 22 ?_); refine wpList_of_wp rfl (owp_ix (o := ⟨some 22, _, _, _, _, _⟩) _ _ rfl Try.elRe rfl hrow i rfl rfl hin ?_); intro b3 o3 hc3; have hp3 := re_pins HY.out hc3; clear hc3)
        | ((with_reducible refine atSlot 41 ?_); refine wpList_of_wp rfl (wp_load_mid (op := ⟨some 41, _, _, _, _, _⟩) 28 _ rfl w.heap.size 0 rfl [.int .i64 room, .slice a n c] _ hrg Try.underlying28 rfl (by kernel_rfl) ?_); clear hrg)
        | ((with_reducible refine atStore 6 ?_); refine wpList_of_wp rfl (wp_store_row (o := ⟨none, _, _, _, _, _⟩) _ _ _ rfl (w.heap.size + 1 + 1) #[.int .i64 room, .slice a n c] rfl rfl _ _ hh3 (by kernel_rfl) rfl (by simp [Value.oneCell']) ?_))
        | fail)
      refine bodyPost_ret (results_c1 (ty := 28) rfl _ (w.heap.size + 1 + 1) [.int .i64 room, .slice a n c] _ rfl (range_of_heap2 HF.out) Try.underlying28 rfl (by kernel_rfl)) rfl ?_
      rw [HV.out]
      exact ⟨a, n, c, L, rfl, HH.out.ext HXF.out, rfl, HXF.out⟩
    · have hv : pinC (L.map Re.en) (s, z) = (setP (L.map Re.en) i (y.p + 1), true) := by
        unfold pinC
        rw [hat]
        simp only
        rw [hyE]
        simp only
        rw [if_neg (show ¬ 1024 ≤ y.en.p from hc)]
        rfl
      have HV := Lib.hid hv
      obtain ⟨p', hpe⟩ : ∃ p', p' = y.p + 1 := ⟨_, rfl⟩
      have hp' : p' ≤ 1024 := by omega
      have hpi : (y.p : Int) + (1) = p' := by omega
      have HPE := Lib.hid hpe
      have HPI := Lib.hid hpi
      have HWR := Lib.hid (show wrap64 ((y.p : Int) + (1)) = p' from (by unfold wrap64; omega))
      have HPL := Lib.hid hp'
      have hd1 : decide ((y.p : Int) ≥ 1024) = false := decide_eq_false (by omega)
      have hrow := HR3.out.row
      have HRG := Lib.hid hrow
      have HHG := Lib.hid hh3
      clear hat hv hc hyE hp' hpe hpi hyp HF HXF
      go_upto_region 4 with (first
        | ((with_reducible refine atSlot 22 ?_); refine wpList_of_wp rfl (owp_ix (o := ⟨some 22, _, _, _, _, _⟩) _ _ rfl Try.elRe rfl hrow i rfl rfl hin ?_); intro b3 o3 hc3; have hp3 := re_pins HY.out hc3; clear hc3)
        | fail)
      have hh1 := hx3.heap' HH1.out
      have HG0 := Lib.hid fun w' (h : Ext w3 w') => cell_of_row w' w.heap.size 0 _ _ _ (h.heap' hh1)
      have HG1 := Lib.hid fun w' (h : Ext w3 w') => cell_of_row w' w.heap.size 1 _ _ _ (h.heap' hh1)
      clear hrg hcb hh1 hrow
      refine wp_region_e [] (.qs [0, 1, 2, 3] (.alt 4 (.qs [5] (.l 6 (.l 7 .nil))) (.alt 6 (.l 4 (.qs [5] (.l 7 .nil))) .stop))) (by kernel_rfl) (by kernel_rfl) ?_
      refine wpY_midA (Meets [9, 42, 43, 44, 45, 46, 47] (RcMid w3 room n L)) ?_ ?_
      · have E3 := Ext.drew' w3
        ((refine wpY_q rfl rfl _ (fun w' hx' => by go_simp; try rfl) ?_; go_simp))
        refine wpY_q rfl rfl (.int .i64 room) (fun w' hx' => by have hb' := HG0.out w' hx'; go_simp; try rfl) ?_
        go_simp
        ((refine wpY_q rfl rfl _ (fun w' hx' => by go_simp; try rfl) ?_; go_simp))
        refine wpY_q rfl rfl (.slice a n c) (fun w' hx' => by have hb' := HG1.out w' hx'; go_simp; try rfl) ?_
        go_simp
        refine wpY_alt rfl rfl (owp_clone _ _ rfl Try.elRe rfl rfl (HRG.out.ext E3) (re_oneCell L) (by omega) ?_) (wpY_alt rfl rfl ?_ wpY_stop)
        · intro a6 c6 w6 ho6 hx6
          have E6 := E3.trans' hx6
          refine ⟨fun _ => E6, ?_⟩
          go_simp
          ((refine wpY_q rfl rfl _ (fun w' hx' => by go_simp; try rfl) ?_; go_simp))
          refine wpY_l rfl rfl ?_
          go_simp
          have E7 := E6.trans' (Ext.alloc' w6 (.cells #[.int .i64 0, .slice none 0 0] 28))
          have ho7 := own_ext ho6 (Ext.alloc' w6 (.cells #[.int .i64 0, .slice none 0 0] 28))
          have hh7 := heap_alloc_new w6 (.cells #[.int .i64 0, .slice none 0 0] 28)
          refine ⟨E7, ?_⟩
          generalize w6.alloc (.cells #[.int .i64 0, .slice none 0 0] 28) = w7 at E7 ho7 hh7 ⊢
          refine wpY_l rfl rfl (wp_store_row _ _ _ rfl w6.heap.size #[.int .i64 room, .slice a6 n c6] rfl rfl _ _ hh7 (by kernel_rfl) rfl (by simp [Value.oneCell']) ?_)
          have E8 : Ext w3 (w7.setRow w6.heap.size #[.int .i64 room, .slice a6 n c6]) := E7.setRow E6.size
          have ho8 := own_other ho7 (grown_setRow w7 w6.heap.size #[.int .i64 room, .slice a6 n c6]) (fun e => own_apart ho7 hh7 (by decide) e.symm)
          exact ⟨fun _ => E8, wpY_nil (Meets.mk (by kernel_rfl) ⟨w6.heap.size, c6, a6, rfl, setRow_heap w7 w6.heap.size _ _ _ _ hh7, E6.size, own_base ho8 E3.size, E8⟩)⟩
        · go_simp
          have hh0 := heap_alloc_new w3.drew (.cells #[.int .i64 0, .slice none 0 0] 28)
          have E4 := E3.trans' (Ext.alloc' w3.drew (.cells #[.int .i64 0, .slice none 0 0] 28))
          refine ⟨E4, ?_⟩
          refine wpY_l rfl rfl (owp_clone _ _ rfl Try.elRe rfl rfl (HRG.out.ext E4) (re_oneCell L) (by omega) ?_)
          intro a6 c6 w6 ho6 hx6
          have E6 := E4.trans' hx6
          have hh6 := hx6.heap' hh0
          have hb6 : w3.heap.size ≤ w3.drew.heap.size := E3.size
          refine ⟨fun _ => E6, ?_⟩
          go_simp
          ((refine wpY_q rfl rfl _ (fun w' hx' => by go_simp; try rfl) ?_; go_simp))
          refine wpY_l rfl rfl (wp_store_row _ _ _ rfl w3.drew.heap.size #[.int .i64 room, .slice a6 n c6] rfl rfl _ _ hh6 (by kernel_rfl) rfl (by simp [Value.oneCell']) ?_)
          have E8 : Ext w3 (w6.setRow w3.drew.heap.size #[.int .i64 room, .slice a6 n c6]) := E6.setRow hb6
          have ho8 := own_other ho6 (grown_setRow w6 w3.drew.heap.size #[.int .i64 room, .slice a6 n c6]) (fun e => own_apart ho6 hh6 (by decide) e.symm)
          exact ⟨fun _ => E8, wpY_nil (Meets.mk (by kernel_rfl) ⟨w3.drew.heap.size, c6, a6, rfl, setRow_heap w6 w3.drew.heap.size _ _ _ _ hh6, hb6, own_base ho8 E4.size, E8⟩)⟩
      · rintro a' w5 ⟨v, rfl, b, c5, a5, hv, hh5, hb5, ho5, hx5⟩
        simp only [fill, hv]
        go_simp
        clear hv HG0 HG1 HRG
        obtain ⟨q, cur, rfl, -⟩ := own_some ho5 (by omega)
        have hbc := cell_of_row w5 b 1 _ _ _ hh5
        have hpc : w5.cell? ⟨q, i * 4 + 3, none⟩ = some (.int .i64 y.p) := by
          have h1 := (Row.of_own ho5).cell _ rfl (i * 4 + 3) _ (re_get HY.out 3 (by decide))
          rwa [Addr.add_lit, Nat.zero_add] at h1
        have hth : w5.there q (i * 4 + 3) 1 := own_there ho5 (by omega)
        have ho6 := own_setCell (j := i * 4 + 3) (v := .int .i64 p') ho5 (by omega)
        rw [re_set p' HY.out] at ho6
        have hg6 := grown_setCell' w5 q (i * 4 + 3) (Value.int .i64 p')
        have hqb : b ≠ q := fun e => own_apart ho5 hh5 (by decide) (by rw [e]; rfl)
        have hh6 := (heap_setCell_other w5 ⟨q, i * 4 + 3, none⟩ b (Value.int .i64 p') hqb).trans hh5
        have hx6 : Ext w3 (w5.setCell ⟨q, i * 4 + 3, none⟩ (.int .i64 p')) := hx5.grown hg6 hx5.size (fun k hk => by cases hk; exact (own_block ho5 q rfl).1)
        have HO6 := Lib.hid ho6
        have HH6 := Lib.hid hh6
        have HX6 := Lib.hid hx6
        clear ho5 hh5 ho6 hg6 hh6 hx6 hqb
        go_upto_region 6 with (first
          | ((with_reducible refine atSlot 51 ?_); refine wpList_of_wp rfl (owp_ixp3 (o := ⟨some 51, _, _, _, _, _⟩) _ _ rfl Try.elRe rfl i rfl rfl hin ?_))
          | ((with_reducible refine atSlot 56 ?_); refine wpList_of_wp rfl (owp_ixp3 (o := ⟨some 56, _, _, _, _, _⟩) _ _ rfl Try.elRe rfl i rfl rfl hin ?_))
          | ((with_reducible refine atStore 57 ?_); refine wpList_of_wp rfl (owp_st1 (o := ⟨none, _, _, _, _, _⟩) 3 _ _ rfl q (i * 4 + 3) (.int .i64 p') rfl (by first | rfl | (show Value.int .i64 _ = Value.int .i64 _; rw [HWR.out])) rfl hth (by kernel_rfl) rfl ?_))
          | fail)
        clear hpc hth hbc
        generalize w5.setCell ⟨q, i * 4 + 3, none⟩ (.int .i64 p') = w6 at HO6 HH6 HX6 ⊢
        have hr6 := range_of_heap2 HH6.out
        have hh9 := HX6.out.heap' HHG.out
        have HF := Lib.hid (setRow_heap w6 (w.heap.size + 1 + 1) _ #[.int .i64 room, .slice (some ⟨q, 0, none⟩) n c5] _ _ hh9)
        have HXF := Lib.hid ((HX3.out.trans' HX6.out).setRow (g := w.heap.size + 1 + 1) (cs := #[.int .i64 room, .slice (some ⟨q, 0, none⟩) n c5]) (by omega))
        have HOF := Lib.hid (own_other HO6.out (grown_setRow w6 (w.heap.size + 1 + 1) #[.int .i64 room, .slice (some ⟨q, 0, none⟩) n c5]) (fun e => own_apart HO6.out hh9 (by decide) e.symm))
        go_wp2_with (first
          | ((with_reducible refine atSlot 58 ?_); refine wpList_of_wp rfl (wp_load_mid (op := ⟨some 58, _, _, _, _, _⟩) 28 _ rfl b 0 rfl [.int .i64 room, .slice (some ⟨q, 0, none⟩) n c5] _ hr6 Try.underlying28 rfl (by kernel_rfl) ?_); clear hr6)
          | ((with_reducible refine atStore 6 ?_); refine wpList_of_wp rfl (wp_store_row (o := ⟨none, _, _, _, _, _⟩) _ _ _ rfl (w.heap.size + 1 + 1) #[.int .i64 room, .slice (some ⟨q, 0, none⟩) n c5] rfl rfl _ _ hh9 (by kernel_rfl) rfl (by simp [Value.oneCell']) ?_))
          | fail)
        refine bodyPost_ret (results_c1 (ty := 28) rfl _ (w.heap.size + 1 + 1) [.int .i64 room, .slice (some ⟨q, 0, none⟩) n c5] _ rfl (range_of_heap2 HF.out) Try.underlying28 rfl (by kernel_rfl)) rfl ?_
        have hB := HBB.out
        have hok := setP_ok (i := i) (p := p') HH.out.ok HPL.out
        rw [← setL_en HY.out] at hok
        rw [HV.out, ← HPE.out, ← setL_en HY.out]
        refine ⟨some ⟨q, 0, none⟩, n, c5, _, rfl, ⟨own_base HOF.out (by omega), fun k hk => ?_, hok, HH.out.max⟩, rfl, HXF.out⟩
        rcases List.mem_or_eq_of_mem_set hk with hk | rfl
        · exact own_ext (HH.out.data k hk) HXF.out
        · exact own_ext (HH.out.data y (List.mem_of_getElem? HY.out)) HXF.out

set_option maxRecDepth 100000 in
set_option maxHeartbeats 8000000 in
theorem refUnpin38_any (B room : Nat) (a : Option Addr) (n c : Nat) (L : List Re) (s : Nat) (z : Int) (w : World) (h : Rc w B room a n c L) (hB : B ≤ w.heap.size) :
    Calls Try.prog 49 #[.agg #[.int .i64 room, .slice a n c], .agg #[.int .u64 s, .int .i64 z], .int .i64 (-1)] w (RFlagO w B room (unpC (L.map Re.en) (s, z))) := by
  have hln := h.len
  have hfew := h.few
  have HL := Lib.hid hln
  have HH := Lib.hid h
  have HBB := Lib.hid hB
  obtain ⟨hx1, hh1, hh2, hh3⟩ := boxed3_facts w room a n c s z
  have HX := Lib.hid hx1
  have HR := Lib.hid (h.ext hx1)
  clear hln h hB
  go_enter Try.func49, Try.ntmps49
  go_upto_region 1 with fail
  change Code.wp _ _ _ _ (boxed3 w room a n c s z)
  generalize boxed3 w room a n c s z = w2 at hx1 hh1 hh2 hh3 HX HR ⊢
  have r1 := range_of_heap2 hh1
  have r2 := range_of_heap2 hh2
  have HH1 := Lib.hid hh1
  have HH3 := Lib.hid hh3
  clear hx1 hh1 hh2 hh3
  go_upto_region 2 with (first
    | ((with_reducible refine atSlot 10 ?_); refine wpList_of_wp rfl (wp_load_mid (op := ⟨some 10, _, _, _, _, _⟩) 28 _ rfl w.heap.size 0 rfl [.int .i64 room, .slice a n c] _ r1 Try.underlying28 rfl (by kernel_rfl) ?_); clear r1)
    | ((with_reducible refine atSlot 11 ?_); refine wpList_of_wp rfl (wp_load_mid (op := ⟨some 11, _, _, _, _, _⟩) 45 _ rfl (w.heap.size + 1) 0 rfl [.int .u64 s, .int .i64 z] _ r2 Try.underlying45 rfl (by kernel_rfl) ?_); clear r2)
    | (go_at_call 50; (with_reducible refine (At38_any B room a n c L s z _ HR.out).mono ?_); rintro en w3 ⟨rfl, hx3⟩)
    | fail)
  have hz2 := HX.out.size
  have hz3 := hx3.size
  have hh1 := hx3.heap' HH1.out
  have hh3 := hx3.heap' HH3.out
  have hrg := range_of_heap2 hh1
  have hcb := cell_of_row w3 w.heap.size 1 _ _ _ hh1
  have HX3 := Lib.hid (HX.out.trans' hx3)
  have HF := Lib.hid (setRow_heap w3 (w.heap.size + 1 + 1) _ #[.int .i64 room, .slice a n c] _ _ hh3)
  have HXF := Lib.hid (HX3.out.setRow (g := w.heap.size + 1 + 1) (cs := #[.int .i64 room, .slice a n c]) (by omega))
  cases hat : atF (s, z) (L.map Re.en) with
  | none =>
    have hv : unpC (L.map Re.en) (s, z) = (L.map Re.en, false) := by unfold unpC; rw [hat]
    rw [atI_none hat]
    have HV := Lib.hid hv
    clear hat hv hh1 hcb
    go_wp2_with (first
      | ((with_reducible refine atSlot 41 ?_); refine wpList_of_wp rfl (wp_load_mid (op := ⟨some 41, _, _, _, _, _⟩) 28 _ rfl w.heap.size 0 rfl [.int .i64 room, .slice a n c] _ hrg Try.underlying28 rfl (by kernel_rfl) ?_); clear hrg)
      | ((with_reducible refine atStore 6 ?_); refine wpList_of_wp rfl (wp_store_row (o := ⟨none, _, _, _, _, _⟩) _ _ _ rfl (w.heap.size + 1 + 1) #[.int .i64 room, .slice a n c] rfl rfl _ _ hh3 (by kernel_rfl) rfl (by simp [Value.oneCell']) ?_))
      | fail)
    refine bodyPost_ret (results_c1 (ty := 28) rfl _ (w.heap.size + 1 + 1) [.int .i64 room, .slice a n c] _ rfl (range_of_heap2 HF.out) Try.underlying28 rfl (by kernel_rfl)) rfl ?_
    rw [HV.out]
    exact ⟨a, n, c, L, rfl, HH.out.ext HXF.out, rfl, HXF.out⟩
  | some i =>
    obtain ⟨y, hy, -⟩ := re_at hat
    have hyE : (L.map Re.en)[i]? = some y.en := by rw [List.getElem?_map, hy]; rfl
    have hin : i < n := by have := (List.getElem?_eq_some_iff.1 hy).1; have := HL.out; omega
    have hk := Re.keys HH.out (List.mem_of_getElem? hy)
    have hyp := hk.2.2.2.2
    rw [atI_some hat]
    have HY := Lib.hid hy
    have HR3 := Lib.hid (HR.out.ext hx3)
    clear hk hh1
    by_cases hc : y.p = 0
    · have hv : unpC (L.map Re.en) (s, z) = (L.map Re.en, false) := by
        unfold unpC
        rw [hat]
        simp only
        rw [hyE]
        simp only
        rw [if_pos (show y.en.p = 0 from hc)]
      have HV := Lib.hid hv
      have hd1 : ((y.p : Int) == 0) = true := (by rw [hc]; rfl)
      have hrow := HR3.out.row
      clear hat hv hc hyE
      go_wp2_with (first
        | ((with_reducible refine atSlot 35 ?_); refine wpList_of_wp rfl (owp_ix (o := ⟨some 35, _, _, _, _, _⟩) _ _ rfl Try.elRe rfl hrow i rfl rfl hin ?_); intro b3 o3 hc3; have hp3 := re_pins HY.out hc3; clear hc3)
        | ((with_reducible refine atSlot 41 ?_); refine wpList_of_wp rfl (wp_load_mid (op := ⟨some 41, _, _, _, _, _⟩) 28 _ rfl w.heap.size 0 rfl [.int .i64 room, .slice a n c] _ hrg Try.underlying28 rfl (by kernel_rfl) ?_); clear hrg)
        | ((with_reducible refine atStore 6 ?_); refine wpList_of_wp rfl (wp_store_row (o := ⟨none, _, _, _, _, _⟩) _ _ _ rfl (w.heap.size + 1 + 1) #[.int .i64 room, .slice a n c] rfl rfl _ _ hh3 (by kernel_rfl) rfl (by simp [Value.oneCell']) ?_))
        | fail)
      refine bodyPost_ret (results_c1 (ty := 28) rfl _ (w.heap.size + 1 + 1) [.int .i64 room, .slice a n c] _ rfl (range_of_heap2 HF.out) Try.underlying28 rfl (by kernel_rfl)) rfl ?_
      rw [HV.out]
      exact ⟨a, n, c, L, rfl, HH.out.ext HXF.out, rfl, HXF.out⟩
    · have hv : unpC (L.map Re.en) (s, z) = (setP (L.map Re.en) i (y.p - 1), true) := by
        unfold unpC
        rw [hat]
        simp only
        rw [hyE]
        simp only
        rw [if_neg (show ¬ y.en.p = 0 from hc)]
        rfl
      have HV := Lib.hid hv
      obtain ⟨p', hpe⟩ : ∃ p', p' = y.p - 1 := ⟨_, rfl⟩
      have hp' : p' ≤ 1024 := by omega
      have hpi : (y.p : Int) + (-1) = p' := by omega
      have HPE := Lib.hid hpe
      have HPI := Lib.hid hpi
      have HWR := Lib.hid (show wrap64 ((y.p : Int) + (-1)) = p' from (by unfold wrap64; omega))
      have HPL := Lib.hid hp'
      have hd1 : ((y.p : Int) == 0) = false := (by simp; omega)
      have hrow := HR3.out.row
      have HRG := Lib.hid hrow
      have HHG := Lib.hid hh3
      clear hat hv hc hyE hp' hpe hpi hyp HF HXF
      go_upto_region 4 with (first
        | ((with_reducible refine atSlot 35 ?_); refine wpList_of_wp rfl (owp_ix (o := ⟨some 35, _, _, _, _, _⟩) _ _ rfl Try.elRe rfl hrow i rfl rfl hin ?_); intro b3 o3 hc3; have hp3 := re_pins HY.out hc3; clear hc3)
        | fail)
      have hh1 := hx3.heap' HH1.out
      have HG0 := Lib.hid fun w' (h : Ext w3 w') => cell_of_row w' w.heap.size 0 _ _ _ (h.heap' hh1)
      have HG1 := Lib.hid fun w' (h : Ext w3 w') => cell_of_row w' w.heap.size 1 _ _ _ (h.heap' hh1)
      clear hrg hcb hh1 hrow
      refine wp_region_e [] (.qs [0, 1, 2, 3] (.alt 4 (.qs [5] (.l 6 (.l 7 .nil))) (.alt 6 (.l 4 (.qs [5] (.l 7 .nil))) .stop))) (by kernel_rfl) (by kernel_rfl) ?_
      refine wpY_midA (Meets [9, 42, 43, 44, 45, 46, 47] (RcMid w3 room n L)) ?_ ?_
      · have E3 := Ext.drew' w3
        ((refine wpY_q rfl rfl _ (fun w' hx' => by go_simp; try rfl) ?_; go_simp))
        refine wpY_q rfl rfl (.int .i64 room) (fun w' hx' => by have hb' := HG0.out w' hx'; go_simp; try rfl) ?_
        go_simp
        ((refine wpY_q rfl rfl _ (fun w' hx' => by go_simp; try rfl) ?_; go_simp))
        refine wpY_q rfl rfl (.slice a n c) (fun w' hx' => by have hb' := HG1.out w' hx'; go_simp; try rfl) ?_
        go_simp
        refine wpY_alt rfl rfl (owp_clone _ _ rfl Try.elRe rfl rfl (HRG.out.ext E3) (re_oneCell L) (by omega) ?_) (wpY_alt rfl rfl ?_ wpY_stop)
        · intro a6 c6 w6 ho6 hx6
          have E6 := E3.trans' hx6
          refine ⟨fun _ => E6, ?_⟩
          go_simp
          ((refine wpY_q rfl rfl _ (fun w' hx' => by go_simp; try rfl) ?_; go_simp))
          refine wpY_l rfl rfl ?_
          go_simp
          have E7 := E6.trans' (Ext.alloc' w6 (.cells #[.int .i64 0, .slice none 0 0] 28))
          have ho7 := own_ext ho6 (Ext.alloc' w6 (.cells #[.int .i64 0, .slice none 0 0] 28))
          have hh7 := heap_alloc_new w6 (.cells #[.int .i64 0, .slice none 0 0] 28)
          refine ⟨E7, ?_⟩
          generalize w6.alloc (.cells #[.int .i64 0, .slice none 0 0] 28) = w7 at E7 ho7 hh7 ⊢
          refine wpY_l rfl rfl (wp_store_row _ _ _ rfl w6.heap.size #[.int .i64 room, .slice a6 n c6] rfl rfl _ _ hh7 (by kernel_rfl) rfl (by simp [Value.oneCell']) ?_)
          have E8 : Ext w3 (w7.setRow w6.heap.size #[.int .i64 room, .slice a6 n c6]) := E7.setRow E6.size
          have ho8 := own_other ho7 (grown_setRow w7 w6.heap.size #[.int .i64 room, .slice a6 n c6]) (fun e => own_apart ho7 hh7 (by decide) e.symm)
          exact ⟨fun _ => E8, wpY_nil (Meets.mk (by kernel_rfl) ⟨w6.heap.size, c6, a6, rfl, setRow_heap w7 w6.heap.size _ _ _ _ hh7, E6.size, own_base ho8 E3.size, E8⟩)⟩
        · go_simp
          have hh0 := heap_alloc_new w3.drew (.cells #[.int .i64 0, .slice none 0 0] 28)
          have E4 := E3.trans' (Ext.alloc' w3.drew (.cells #[.int .i64 0, .slice none 0 0] 28))
          refine ⟨E4, ?_⟩
          refine wpY_l rfl rfl (owp_clone _ _ rfl Try.elRe rfl rfl (HRG.out.ext E4) (re_oneCell L) (by omega) ?_)
          intro a6 c6 w6 ho6 hx6
          have E6 := E4.trans' hx6
          have hh6 := hx6.heap' hh0
          have hb6 : w3.heap.size ≤ w3.drew.heap.size := E3.size
          refine ⟨fun _ => E6, ?_⟩
          go_simp
          ((refine wpY_q rfl rfl _ (fun w' hx' => by go_simp; try rfl) ?_; go_simp))
          refine wpY_l rfl rfl (wp_store_row _ _ _ rfl w3.drew.heap.size #[.int .i64 room, .slice a6 n c6] rfl rfl _ _ hh6 (by kernel_rfl) rfl (by simp [Value.oneCell']) ?_)
          have E8 : Ext w3 (w6.setRow w3.drew.heap.size #[.int .i64 room, .slice a6 n c6]) := E6.setRow hb6
          have ho8 := own_other ho6 (grown_setRow w6 w3.drew.heap.size #[.int .i64 room, .slice a6 n c6]) (fun e => own_apart ho6 hh6 (by decide) e.symm)
          exact ⟨fun _ => E8, wpY_nil (Meets.mk (by kernel_rfl) ⟨w3.drew.heap.size, c6, a6, rfl, setRow_heap w6 w3.drew.heap.size _ _ _ _ hh6, hb6, own_base ho8 E4.size, E8⟩)⟩
      · rintro a' w5 ⟨v, rfl, b, c5, a5, hv, hh5, hb5, ho5, hx5⟩
        simp only [fill, hv]
        go_simp
        clear hv HG0 HG1 HRG
        obtain ⟨q, cur, rfl, -⟩ := own_some ho5 (by omega)
        have hbc := cell_of_row w5 b 1 _ _ _ hh5
        have hpc : w5.cell? ⟨q, i * 4 + 3, none⟩ = some (.int .i64 y.p) := by
          have h1 := (Row.of_own ho5).cell _ rfl (i * 4 + 3) _ (re_get HY.out 3 (by decide))
          rwa [Addr.add_lit, Nat.zero_add] at h1
        have hth : w5.there q (i * 4 + 3) 1 := own_there ho5 (by omega)
        have ho6 := own_setCell (j := i * 4 + 3) (v := .int .i64 p') ho5 (by omega)
        rw [re_set p' HY.out] at ho6
        have hg6 := grown_setCell' w5 q (i * 4 + 3) (Value.int .i64 p')
        have hqb : b ≠ q := fun e => own_apart ho5 hh5 (by decide) (by rw [e]; rfl)
        have hh6 := (heap_setCell_other w5 ⟨q, i * 4 + 3, none⟩ b (Value.int .i64 p') hqb).trans hh5
        have hx6 : Ext w3 (w5.setCell ⟨q, i * 4 + 3, none⟩ (.int .i64 p')) := hx5.grown hg6 hx5.size (fun k hk => by cases hk; exact (own_block ho5 q rfl).1)
        have HO6 := Lib.hid ho6
        have HH6 := Lib.hid hh6
        have HX6 := Lib.hid hx6
        clear ho5 hh5 ho6 hg6 hh6 hx6 hqb
        go_upto_region 6 with (first
          | ((with_reducible refine atSlot 51 ?_); refine wpList_of_wp rfl (owp_ixp3 (o := ⟨some 51, _, _, _, _, _⟩) _ _ rfl Try.elRe rfl i rfl rfl hin ?_))
          | ((with_reducible refine atSlot 56 ?_); refine wpList_of_wp rfl (owp_ixp3 (o := ⟨some 56, _, _, _, _, _⟩) _ _ rfl Try.elRe rfl i rfl rfl hin ?_))
          | ((with_reducible refine atStore 57 ?_); refine wpList_of_wp rfl (owp_st1 (o := ⟨none, _, _, _, _, _⟩) 3 _ _ rfl q (i * 4 + 3) (.int .i64 p') rfl (by first | rfl | (show Value.int .i64 _ = Value.int .i64 _; rw [HWR.out])) rfl hth (by kernel_rfl) rfl ?_))
          | fail)
        clear hpc hth hbc
        generalize w5.setCell ⟨q, i * 4 + 3, none⟩ (.int .i64 p') = w6 at HO6 HH6 HX6 ⊢
        have hr6 := range_of_heap2 HH6.out
        have hh9 := HX6.out.heap' HHG.out
        have HF := Lib.hid (setRow_heap w6 (w.heap.size + 1 + 1) _ #[.int .i64 room, .slice (some ⟨q, 0, none⟩) n c5] _ _ hh9)
        have HXF := Lib.hid ((HX3.out.trans' HX6.out).setRow (g := w.heap.size + 1 + 1) (cs := #[.int .i64 room, .slice (some ⟨q, 0, none⟩) n c5]) (by omega))
        have HOF := Lib.hid (own_other HO6.out (grown_setRow w6 (w.heap.size + 1 + 1) #[.int .i64 room, .slice (some ⟨q, 0, none⟩) n c5]) (fun e => own_apart HO6.out hh9 (by decide) e.symm))
        go_wp2_with (first
          | ((with_reducible refine atSlot 58 ?_); refine wpList_of_wp rfl (wp_load_mid (op := ⟨some 58, _, _, _, _, _⟩) 28 _ rfl b 0 rfl [.int .i64 room, .slice (some ⟨q, 0, none⟩) n c5] _ hr6 Try.underlying28 rfl (by kernel_rfl) ?_); clear hr6)
          | ((with_reducible refine atStore 6 ?_); refine wpList_of_wp rfl (wp_store_row (o := ⟨none, _, _, _, _, _⟩) _ _ _ rfl (w.heap.size + 1 + 1) #[.int .i64 room, .slice (some ⟨q, 0, none⟩) n c5] rfl rfl _ _ hh9 (by kernel_rfl) rfl (by simp [Value.oneCell']) ?_))
          | fail)
        refine bodyPost_ret (results_c1 (ty := 28) rfl _ (w.heap.size + 1 + 1) [.int .i64 room, .slice (some ⟨q, 0, none⟩) n c5] _ rfl (range_of_heap2 HF.out) Try.underlying28 rfl (by kernel_rfl)) rfl ?_
        have hB := HBB.out
        have hok := setP_ok (i := i) (p := p') HH.out.ok HPL.out
        rw [← setL_en HY.out] at hok
        rw [HV.out, ← HPE.out, ← setL_en HY.out]
        refine ⟨some ⟨q, 0, none⟩, n, c5, _, rfl, ⟨own_base HOF.out (by omega), fun k hk => ?_, hok, HH.out.max⟩, rfl, HXF.out⟩
        rcases List.mem_or_eq_of_mem_set hk with hk | rfl
        · exact own_ext (HH.out.data k hk) HXF.out
        · exact own_ext (HH.out.data y (List.mem_of_getElem? HY.out)) HXF.out
end Go.Proofs.Ytpiodpljiklfkaa
