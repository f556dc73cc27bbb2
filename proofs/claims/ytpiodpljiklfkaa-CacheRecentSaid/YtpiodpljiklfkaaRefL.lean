/-
  The reference's manifests: Of.
-/
import Derived.Test.YtpiodpljiklfkaaBts
import Derived.Test.YtpiodpljiklfkaaRefJ
import Derived.Test.YtpiodpljiklfkaaMathU
namespace Go.Proofs.Ytpiodpljiklfkaa
open Go.RowKit
def manC (S : Int) (a : Option Addr) (n c : Nat) : Array Value := #[.int .i64 S, .slice a n c]
def ManAt (w : World) (b : Nat) (S : Int) (a : Option Addr) (n c : Nat) : Prop := w.heap[b]? = some (.cells (manC S a n c) 60 (0, 0))
theorem ManAt.size {w : World} {b n c : Nat} {S : Int} {a : Option Addr} (h : ManAt w b S a n c) : w.cell? ⟨b, 0, none⟩ = some (.int .i64 S) := cell_of_row w b 0 _ _ _ h
theorem ManAt.ids {w : World} {b n c : Nat} {S : Int} {a : Option Addr} (h : ManAt w b S a n c) : w.cell? ⟨b, 1, none⟩ = some (.slice a n c) := cell_of_row w b 1 _ _ _ h
theorem ManAt.rd {w : World} {b n c : Nat} {S : Int} {a : Option Addr} (h : ManAt w b S a n c) : w.rangeAt b 0 [.int .i64 S, .slice a n c] := range_of_heap2 h
def idsOf (L : List Bt) : List (Nat × Int) := L.map fun k => idOf k.l
theorem heap_kept {w w' : World} {g k : Nat} {o : Obj} (h : w.heap[k]? = some o) (hg : w.grownBy w' (some g)) (hk : k ≠ g) : w'.heap[k]? = some o :=
  (hg.block k (Array.getElem?_eq_some_iff.1 h).1 (fun e => hk (by cases e; rfl))).trans h
def OfRel (w : World) (n : Nat) (K : List (Nat × Int)) (i : Value) (wr : World) : Prop :=
  ∃ (j kc : Nat) (ka : Option Addr), i = .int .i64 j ∧ j ≤ n ∧ ManAt wr w.heap.size 0 none 0 0 ∧ ManAt wr (w.heap.size + 1) (sumK (K.take j)) ka j kc ∧
    wr.ownsRow w.heap.size 45 2 (.slice ka j kc) j ((K.take j).flatMap idCells) ∧ Ext w wr
theorem sum_take {K : List (Nat × Int)} {j : Nat} {k : Nat × Int} (h : K[j]? = some k) : sumK (K.take (j + 1)) = sumK (K.take j) + k.2 := by
  rw [List.take_add_one, h, sumK_app]
  simp [sumK]
theorem sum_bound {K : List (Nat × Int)} (h : ∀ k ∈ K, 0 ≤ k.2 ∧ k.2 ≤ 8192) (j : Nat) : 0 ≤ sumK (K.take j) ∧ sumK (K.take j) ≤ 8192 * j := by
  induction j with
  | zero => simp [sumK]
  | succ j ih =>
    cases hk : K[j]? with
    | none =>
      rw [List.getElem?_eq_none_iff] at hk
      rw [List.take_of_length_le (by omega), ← List.take_of_length_le (l := K) hk]
      omega
    | some k =>
      rw [sum_take hk]
      have := h k (List.mem_of_getElem? hk)
      omega
def BxR (w2 : World) (b : Nat) (S : Int) (a : Option Addr) (n c : Nat) (w' : World) : Prop := ManAt w' b S a n c ∧ Ext w2 w'

set_option maxRecDepth 100000 in
set_option maxHeartbeats 4000000 in
theorem refOf25_any (a : Option Addr) (n c : Nat) (L : List Bt) (w : World) (h : Bts w a n c L) (hn : n ≤ 100) (hl : ∀ k ∈ L, k.l.length ≤ 8192) :
    Calls Try.prog 43 #[.slice a n c] w fun en w' =>
      ∃ (ka : Option Addr) (kc : Nat), en = .returned (.agg #[.int .i64 (sumK (idsOf L)), .slice ka n kc]) ∧ w'.ownsRow w.heap.size 45 2 (.slice ka n kc) n ((idsOf L).flatMap idCells) ∧ Ext w w' := by
  have hE := Ext.alloc' w (.cells #[.int .i64 0, .slice none 0 0] 60)
  have hE2 := Ext.alloc' (w.alloc (.cells #[.int .i64 0, .slice none 0 0] 60)) (.cells #[.int .i64 0, .slice none 0 0] 60)
  have hh1 : ManAt ((w.alloc (.cells #[.int .i64 0, .slice none 0 0] 60)).alloc (.cells #[.int .i64 0, .slice none 0 0] 60)) w.heap.size 0 none 0 0 := hE2.heap' (heap_alloc_new w _)
  have hh2 : ManAt ((w.alloc (.cells #[.int .i64 0, .slice none 0 0] 60)).alloc (.cells #[.int .i64 0, .slice none 0 0] 60)) (w.heap.size + 1) 0 none 0 0 := by
    unfold ManAt
    rw [← World.size_alloc w (.cells #[.int .i64 0, .slice none 0 0] 60)]
    exact heap_alloc_new _ _
  have hx := hE.trans' hE2
  have HH := Lib.hid h
  have HL := Lib.hid (show ∀ k ∈ idsOf L, 0 ≤ k.2 ∧ k.2 ≤ 8192 from fun k hk => by
    obtain ⟨y, hy, rfl⟩ := List.mem_map.1 hk
    have := hl y hy
    show (0 : Int) ≤ (y.l.length : Int) ∧ (y.l.length : Int) ≤ 8192
    omega)
  have HLL := Lib.hid hl
  clear h hE hE2 hl
  go_enter Try.func43, Try.ntmps43
  go_upto_region 2 with fail
  generalize (w.alloc (.cells #[.int .i64 0, .slice none 0 0] 60)).alloc (.cells #[.int .i64 0, .slice none 0 0] 60) = w2 at hx hh1 hh2 ⊢
  go_wp2
  go_loopw [4] (OfRel w n (idsOf L)) (fun i _ => n - (intOf i).toNat)
  case atStart => exact ⟨0, 0, none, rfl, Nat.zero_le _, hh1, hh2, own_nil _ _ _ _, hx⟩
  case round =>
    obtain ⟨j, kc, ka, rfl, hj, hm1, hm2, ho, hw⟩ := hrel
    rename World => w3
    have HM1 := Lib.hid hm1
    have HM2 := Lib.hid hm2
    have HO := Lib.hid ho
    clear hm1 hm2 ho hh1 hh2
    by_cases hjn : j < n
    · obtain ⟨y, hy, -⟩ := HH.out.get hjn
      have hyI := (HH.out.ext hw).2.2 y (List.mem_of_getElem? hy)
      have hyn : y.n ≤ 8192 := by have h1 := hyI.1.len; have h2 := HLL.out y (List.mem_of_getElem? hy); omega
      have hkj : (idsOf L)[j]? = some (idOf y.l) := by unfold idsOf; rw [List.getElem?_map, hy]; rfl
      have hst := sum_take hkj
      have hsb := sum_bound HL.out j
      have HY := Lib.hid hy
      have HYI := Lib.hid hyI
      have hyl := hyI.1.len
      have hyz : (idOf y.l).2 = (y.n : Int) := by show (y.l.length : Int) = _; omega
      rw [hyz] at hst
      have HST := Lib.hid hst
      have HKJ := Lib.hid hkj
      obtain ⟨T, hT⟩ : ∃ T, T = sumK ((idsOf L).take j) := ⟨_, rfl⟩
      rw [← hT] at HM2 hsb HST
      have HT := Lib.hid hT
      have hwr : IntKind.i64.wrap (T + (y.n : Int)) = T + (y.n : Int) := by rw [IntKind.wrap_i64]; omega
      have HRW := Lib.hid (show ∀ w', Ext w3 w' → Row w' a n c 1 (L.map Bt.v) from fun w' h => (HH.out.ext (hw.trans' h)).2.1)
      clear hy hyI hkj hst hyz hT
      go_wp2
      refine wp_region_e [9] (.qs [0, 1, 2, 3, 4, 5, 6, 7, 8] (.l 9 .nil)) (by kernel_rfl) (by kernel_rfl) ?_
      ((refine wpY_q rfl rfl _ (fun w' hx' => by go_simp; try rfl) ?_; go_simp))
      refine wpY_q rfl rfl (.int .i64 T) (fun w' hx' => by have hb' := ManAt.size (Ext.heap' hx' HM2.out); go_simp; try rfl) ?_
      go_simp
      iterate 2 ((refine wpY_q rfl rfl _ (fun w' hx' => by go_simp; try rfl) ?_; go_simp))
      refine wpY_ix rfl rfl (.tmp 13) (.tmp 14) rfl Try.elBs rfl HRW.out j rfl rfl hjn ?_
      intro b3 o3 hc3
      refine wpY_q rfl rfl (.slice y.a y.n y.c) (fun w' hx' => by have hb' := bt_cell HY.out (fun i hi => hc3 i hi w' hx'); go_simp; try rfl) ?_
      go_simp
      clear hc3
      ((refine wpY_q rfl rfl _ (fun w' hx' => by go_simp; try rfl) ?_; go_simp))
      refine wpY_q rfl rfl (.int .i64 (T + (y.n : Int))) (fun w' hx' => by go_simp; try rfl) ?_
      go_simp
      ((refine wpY_q rfl rfl _ (fun w' hx' => by go_simp; try rfl) ?_; go_simp))
      have E3 := Ext.drew' w3
      have hm4 : ManAt w3.drew (w.heap.size + 1) T ka j kc := E3.heap' HM2.out
      refine wpY_l rfl rfl (owp_st1 3 _ _ rfl (w.heap.size + 1) 0 (.int .i64 (T + (y.n : Int))) rfl rfl rfl (there_box' hm4 (by show 0 + 1 ≤ 2; decide)) (by kernel_rfl) rfl ?_)
      refine ⟨fun h => absurd h (by decide), wpY_nil ?_⟩
      have hm5 : ManAt (w3.drew.setCell ⟨w.heap.size + 1, 0, none⟩ (.int .i64 (T + (y.n : Int)))) (w.heap.size + 1) (T + (y.n : Int)) ka j kc := heap_setCell_same w3.drew (w.heap.size + 1) 0 _ _ (.int .i64 (T + (y.n : Int))) hm4
      have hx5 : Ext w (w3.drew.setCell ⟨w.heap.size + 1, 0, none⟩ (.int .i64 (T + (y.n : Int)))) := (hw.trans' E3).setCell (by show w.heap.size ≤ w.heap.size + 1; omega) _
      have hg5 := grown_setCell' w3.drew (w.heap.size + 1) 0 (.int .i64 (T + (y.n : Int)))
      have ho5 := own_other (own_ext HO.out E3) hg5 (fun e => own_apart (own_ext HO.out E3) hm4 (by decide) e.symm)
      have hm6 : ManAt (w3.drew.setCell ⟨w.heap.size + 1, 0, none⟩ (.int .i64 (T + (y.n : Int)))) w.heap.size 0 none 0 0 := heap_kept (E3.heap' HM1.out) hg5 (by omega)
      obtain ⟨T2, hT2⟩ : ∃ T2, T2 = T + (y.n : Int) := ⟨_, rfl⟩
      rw [← hT2] at hm5 hx5 hg5 ho5 hm6 ⊢
      generalize w3.drew.setCell ⟨w.heap.size + 1, 0, none⟩ (.int .i64 T2) = w5 at hm5 hx5 hg5 ho5 hm6 ⊢
      have HM5 := Lib.hid hm5
      have HM6 := Lib.hid hm6
      have HX5 := Lib.hid hx5
      have HO5 := Lib.hid (own_ext ho5 (Ext.drew' w5))
      have HT2 := Lib.hid (show T2 = sumK ((idsOf L).take (j + 1)) by rw [hT2, ← HST.out])
      have HRO := Lib.hid (fun w' (h : Ext w w') => refOf_any y.a y.n y.c y.l w' ((HH.out.ext h).2.2 y (List.mem_of_getElem? HY.out)).1 (by omega))
      clear hm5 hx5 hm6 hg5 ho5 hm4 E3 hT2 HM2 HO HRW hwr hsb HST
      go_wp2
      have E5 := Ext.drew' w5
      have hR5 : BxR w (w.heap.size + 1) T2 ka j kc w5.drew := ⟨E5.heap' HM5.out, HX5.out.trans' E5⟩
      have HR5 := Lib.hid (show ∀ w', BxR w (w.heap.size + 1) T2 ka j kc w' → Row w' a n c 1 (L.map Bt.v) from fun w' h => (HH.out.ext h.2).2.1)
      refine wp_region_u (BxR w (w.heap.size + 1) T2 ka j kc) hR5 [10] (.qs [0, 1, 2, 3, 4, 5] (.l 6 (.l 7 (.l 8 (.qs [9] (.l 10 .nil)))))) (by kernel_rfl) (by kernel_rfl) ?_
      ((refine wpZ_q rfl rfl _ (fun w' hx' => by go_simp; try rfl) ?_; go_simp))
      refine wpZ_q rfl rfl (.slice ka j kc) (fun w' hx' => by have hb' := ManAt.ids hx'.1; go_simp; try rfl) ?_
      go_simp
      iterate 2 ((refine wpZ_q rfl rfl _ (fun w' hx' => by go_simp; try rfl) ?_; go_simp))
      refine wpZ_ix rfl rfl (.tmp 22) (.tmp 23) rfl Try.elBs rfl HR5.out hR5 j rfl rfl hjn ?_
      intro b3 o3 hc3
      refine wpZ_q rfl rfl (.slice y.a y.n y.c) (fun w' hx' => by have hb' := bt_cell HY.out (fun i hi => hc3 i hi w' hx'); go_simp; try rfl) ?_
      go_simp
      clear hc3
      refine wpZ_l rfl rfl ?_
      go_simp
      refine (HRO.out _ (HX5.out.trans' E5)).mono ?_
      rintro en w6 ⟨rfl, hx6⟩
      have E6 := E5.trans' hx6
      refine ⟨⟨E6.heap' HM5.out, HX5.out.trans' E6⟩, ?_⟩
      go_simp
      refine wpZ_l rfl rfl ?_
      go_simp
      have hal := Ext.alloc' w6 (.cells #[.int .u64 (fp y.l : Nat), .int .i64 y.n] 45)
      have E7 := E6.trans' hal
      have ho7 := own_ext HO5.out (hx6.trans' hal)
      have hz7 : w.heap.size ≤ (w6.alloc (.cells #[.int .u64 (fp y.l : Nat), .int .i64 y.n] 45)).heap.size := (HX5.out.trans' E7).size
      refine ⟨⟨E7.heap' HM5.out, HX5.out.trans' E7⟩, ?_⟩
      refine wpZ_l rfl rfl (owp_app _ _ rfl Try.elId rfl ho7 rfl (Row.new w6 #[.int .u64 (fp y.l : Nat), .int .i64 y.n] 45 1 2 rfl (by decide)) (id_one [(fp y.l, (y.n : Int))]) (by omega) (by unfold maxLen; omega) hz7 ?_)
      intro a8 c8 w8 ho8 hg8
      have hm8 : ManAt w8 (w.heap.size + 1) T2 ka j kc := grown_box hg8 ho7 (E7.heap' HM5.out) (by decide)
      have hm9 : ManAt w8 w.heap.size 0 none 0 0 := grown_box hg8 ho7 (E7.heap' HM6.out) (by decide)
      have hx8 : Ext w w8 := below_app (HX5.out.trans' E7) ho7 hg8 hz7
      refine ⟨fun _ => ⟨hm8, hx8⟩, ?_⟩
      go_simp
      ((refine wpZ_q rfl rfl _ (fun w' hx' => by go_simp; try rfl) ?_; go_simp))
      have hids : (idsOf L).take (j + 1) = (idsOf L).take j ++ [(fp y.l, (y.n : Int))] := by
        rw [List.take_add_one, HKJ.out, Option.toList_some]
        show _ = _ ++ [((fp y.l), (y.n : Int))]
        have h1 : idOf y.l = (fp y.l, (y.n : Int)) := by unfold idOf; rw [hyl]
        rw [h1]
      have ho9 : w8.ownsRow w.heap.size 45 2 (.slice a8 (j + 1) c8) (j + 1) (((idsOf L).take (j + 1)).flatMap idCells) := by rw [hids, List.flatMap_append]; exact ho8
      refine wpZ_l rfl rfl (owp_st1 33 _ _ rfl (w.heap.size + 1) 1 (.slice a8 (j + 1) c8) rfl rfl rfl (there_box' hm8 (by show 1 + 1 ≤ 2; decide)) (by kernel_rfl) rfl ?_)
      refine ⟨fun h => absurd h (by decide), wpZ_nil ?_⟩
      have hmA : ManAt (w8.setCell ⟨w.heap.size + 1, 1, none⟩ (.slice a8 (j + 1) c8)) (w.heap.size + 1) T2 a8 (j + 1) c8 := heap_setCell_same w8 (w.heap.size + 1) 1 _ _ (.slice a8 (j + 1) c8) hm8
      have hxA : Ext w (w8.setCell ⟨w.heap.size + 1, 1, none⟩ (.slice a8 (j + 1) c8)) := hx8.setCell (by show w.heap.size ≤ w.heap.size + 1; omega) _
      have hgA := grown_setCell' w8 (w.heap.size + 1) 1 (.slice a8 (j + 1) c8)
      have hoA := own_other ho9 hgA (fun e => own_apart ho9 hm8 (by decide) e.symm)
      have hmB : ManAt (w8.setCell ⟨w.heap.size + 1, 1, none⟩ (.slice a8 (j + 1) c8)) w.heap.size 0 none 0 0 := heap_kept hm9 hgA (by omega)
      generalize w8.setCell ⟨w.heap.size + 1, 1, none⟩ (.slice a8 (j + 1) c8) = wA at hmA hxA hoA hmB ⊢
      have HREL := Lib.hid (show ManAt wA w.heap.size 0 none 0 0 ∧ ManAt wA (w.heap.size + 1) (sumK ((idsOf L).take (j + 1))) a8 (j + 1) c8 ∧ wA.ownsRow w.heap.size 45 2 (.slice a8 (j + 1) c8) (j + 1) (((idsOf L).take (j + 1)).flatMap idCells) ∧ Ext w wA from ⟨hmB, by rw [← HT2.out]; exact hmA, hoA, hxA⟩)
      clear hmA hxA hgA hoA hmB ho9 hids hx8 hm8 hm9 ho8 hg8 hz7 ho7 E7 hal E6 hx6 hR5
      go_wp2
      go_roundw
      case rel => exact ⟨j + 1, c8, a8, by go_num, hjn, HREL.out⟩
      case measure => simp [intOf]; omega
    · obtain rfl : j = n := by omega
      have hk : (idsOf L).take j = idsOf L := List.take_of_length_le (by unfold idsOf; rw [List.length_map, HH.out.1]; omega)
      have hm2 := HM2.out
      have ho := HO.out
      rw [hk] at hm2 ho
      have hrd := hm2.rd
      have hm1 := HM1.out
      have hF := setRow_heap w3 w.heap.size _ (manC (sumK (idsOf L)) ka j kc) _ _ hm1
      have hxF : Ext w (w3.setRow w.heap.size (manC (sumK (idsOf L)) ka j kc)) := hw.setRow (Nat.le_refl _)
      have hoF := own_other ho (grown_setRow w3 w.heap.size (manC (sumK (idsOf L)) ka j kc)) (fun e => own_apart ho hm1 (by decide) e.symm)
      have HF := Lib.hid hF
      have HXF := Lib.hid hxF
      have HOF := Lib.hid hoF
      have HM1' := Lib.hid hm1
      clear hm2 ho hk hj hjn hF hxF hoF hm1 HO HM2
      go_wp2_with (first
        | ((with_reducible refine atSlot 30 ?_); refine wpList_of_wp rfl (wp_load_mid (op := ⟨some 30, _, _, _, _, _⟩) 60 _ rfl (w.heap.size + 1) 0 rfl [.int .i64 (sumK (idsOf L)), .slice ka j kc] _ hrd Try.underlying60 rfl (by kernel_rfl) ?_); clear hrd)
        | ((with_reducible refine atStore 2 ?_); refine wpList_of_wp rfl (wp_store_row (o := ⟨none, _, _, _, _, _⟩) _ _ _ rfl w.heap.size #[.int .i64 (sumK (idsOf L)), .slice ka j kc] rfl rfl _ _ HM1'.out (by kernel_rfl) rfl (by simp [Value.oneCell']) ?_))
        | fail)
      refine bodyPost_ret (results_cells rfl _ w.heap.size [.int .i64 (sumK (idsOf L)), .slice ka j kc] _ rfl (fun i v hi => (cell_of_row _ w.heap.size i _ _ _ HF.out).trans (by simpa [manC] using hi)) Try.underlying60 rfl (by kernel_rfl)) rfl ?_
      exact ⟨ka, kc, rfl, HOF.out, HXF.out⟩
end Go.Proofs.Ytpiodpljiklfkaa
