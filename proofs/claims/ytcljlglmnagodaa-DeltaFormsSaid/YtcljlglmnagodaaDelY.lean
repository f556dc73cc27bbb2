/-
  Cost, the program's.
-/
import Derived.Test.YtcljlglmnagodaaDelK
import Derived.Test.YtcljlglmnagodaaMathK
import Derived.Test.YtcljlglmnagodaaLen
namespace Go.Proofs.Ytcljlglmnagodaa
open Go.RowKit

set_option maxRecDepth 100000 in
theorem width_any (v : Nat) (hv : (v : Int) ≤ 18446744073709551615) (w : World) :
    Calls Try.prog 77 #[.int .u64 v] w (Ret (.int .i64 (enc v).length) w) := by
  have h1 := bitLen_le64 v
  have h2 := Lib.hid (width_is v (by omega))
  go_enter Try.func77, Try.ntmps77
  go_wp2_with (go_at_call 95; (with_reducible refine (Len64_any (v : Int) _ (by omega) hv).mono ?_); rintro e w1 ⟨rfl, rfl⟩; rw [Int.toNat_natCast])
  go_ret
  refine ⟨congrArg Ending.returned (congrArg (Value.int IntKind.i64) ?_), rfl⟩
  have := h2.out
  omega

open RowKit in
theorem wrap_add (a b : Int) : wrap64 (wrap64 a + b) = wrap64 (a + b) := by unfold wrap64; omega
/-- What is summed ahead of op j. -/
def costTo (L : List Od) (j : Nat) : Nat := (enc L.length).length + (encOps ((L.take j).map Od.d)).length
theorem costTo_step {L : List Od} {j : Nat} {k : Od} (hk : L[j]? = some k) : costTo L (j + 1) = costTo L j + k.d.enc.length := by
  unfold costTo
  rw [take_map_succ hk, encOps_append, encOps_one, List.length_append]
  omega
theorem costTo_all (L : List Od) : costTo L L.length = (encD (L.map Od.d)).length := by
  unfold costTo encD
  rw [List.take_of_length_le (Nat.le_refl _), List.length_append, List.length_map]
def CoRel (w : World) (L : List Od) (s i : Value) (wr : World) : Prop :=
  ∃ j : Nat, i = .int .i64 j ∧ s = .int .i64 (RowKit.wrap64 (costTo L j : Int)) ∧ j ≤ L.length ∧ ((L.take j).map Od.d).all fineB = true ∧ Ext w wr

set_option maxRecDepth 100000 in
set_option maxHeartbeats 4000000 in
theorem Cost_any (a : Option Addr) (n c : Nat) (L : List Od) (w : World) (hL : Ops w a n c L) (hn : n ≤ 140737488355328) :
    Calls Try.prog 40 #[.slice a n c] w (NewNone (.int .i64 (RowKit.wrap64 (costD (L.map Od.d) : Nat))) w) := by
  have HLN := Lib.hid hL.1
  have hrow := hL.2.1
  have h10 := enc_le10 (v := n) (by omega)
  have hw0 : (((enc n).length : Nat) : Int) = RowKit.wrap64 (costTo L 0 : Int) := by
    unfold costTo
    rw [HLN.out]
    simp only [List.take_zero, List.map_nil, encOps, List.flatMap_nil, List.length_nil, Nat.add_zero]
    unfold RowKit.wrap64
    omega
  have HW0 := Lib.hid hw0
  have z0 : RowKit.wrap64 ((0 : Nat) : Int) = 0 := by unfold RowKit.wrap64; omega
  have TA := Try.ta
  obtain ⟨tcc, tll, tww, tcw, tlw, tlc⟩ := TA
  clear hw0
  go_enter Try.func40, Try.ntmps40
  go_wp2_with (first
    | (go_at_call 77; (with_reducible refine (width_any n (by omega) _).mono ?_); rintro e w1 ⟨rfl, rfl⟩)
    | fail)
  go_loopw [3, 15] (CoRel w L) (fun _ i _ => n - (intOf i).toNat)
  case atStart => exact ⟨0, rfl, congrArg (Value.int IntKind.i64) HW0.out, Nat.zero_le _, by simp, Below.refl _ _⟩
  case round =>
    obtain ⟨j, rfl, rfl, hj, hfine, hx3⟩ := hrel
    rename World => w3
    have hjn' : j ≤ n := by have := HLN.out; omega
    by_cases hjn : j < n
    rotate_left
    · obtain rfl : j = n := by omega
      have hf := hfine
      rw [List.take_of_length_le (by have := HLN.out; omega)] at hf
      have hc : costD (L.map Od.d) = costTo L j := by rw [costD_fine hf, ← costTo_all, HLN.out]
      have HC := Lib.hid hc
      clear hc hf hfine
      go_wp2
      go_ret
      exact ⟨by rw [HC.out]; rfl, hx3⟩
    obtain ⟨k, hk⟩ : ∃ k, L[j]? = some k := ⟨_, List.getElem?_eq_getElem (by have := HLN.out; omega)⟩
    have hkI := (hL.2.2 k (List.mem_of_getElem? hk)).ext hx3
    have hkl := hkI.1.len
    obtain ⟨hkI1, hkI2, hkf, hkz⟩ := hkI
    unfold i64B at hkf hkz
    have hr1 := hrow.ext hx3
    have hst := costTo_step hk
    have hmem : k.d ∈ L.map Od.d := List.mem_map_of_mem (List.mem_of_getElem? hk)
    have hts := take_map_succ hk
    have HK := Lib.hid hk
    have HKL := Lib.hid hkl
    have HST := Lib.hid hst
    have HTS := Lib.hid hts
    have HF := Lib.hid hfine
    have HM := Lib.hid hmem
    clear hk hst hts hfine hmem
    obtain ⟨pv, hpv⟩ : ∃ pv, pv = partV k := ⟨_, rfl⟩
    have hpc := partOf_any k
    rw [← hpv] at hpc
    unfold partV at hpv
    have HPC := Lib.hid hpc
    clear hpc
    rcases od_cases k hkl with ⟨c1, c2, h1, h2⟩ | ⟨c1, c2, h1, h2, h3⟩ | ⟨c1, c2, -, -⟩
    · rw [if_pos c1] at hpv
      subst hpv
      have HN := Lib.hid h2
      clear h2
      by_cases hf0 : k.f < 0
      · have hno : costD (L.map Od.d) = 0 := costD_no HM.out (by unfold fineB; rw [c2, Bool.or_false, Bool.and_eq_false_iff]; exact .inr (decide_eq_false (by show ¬ 0 ≤ k.f; omega)))
        have HNO := Lib.hid hno
        clear hno c1 c2 hkl
        have hd : decide (k.f < 0) = true := decide_eq_true hf0
        go_wp2_with (first
          | ((with_reducible refine atSlot 17 ?_); refine wpList_of_wp rfl (owp_ix (o := ⟨some 17, _, _, _, _, _⟩) _ _ rfl Try.elO rfl hr1 j rfl rfl hjn ?_); intro b3 o3 hc3; have hrg3 := od_range HK.out hc3; clear hc3)
          | ((with_reducible refine atSlot 18 ?_); refine wpList_of_wp rfl (wp_load_mid (op := ⟨some 18, _, _, _, _, _⟩) 39 _ rfl b3 o3 rfl k.cells _ hrg3 Try.underlying39 rfl (by kernel_rfl) ?_); simp only [Od.cells])
          | (go_at_call 74; (with_reducible refine (HPC.out _ HKL.out).mono ?_); rintro e w4 ⟨rfl, hx4⟩; clear hrg3)
          | fail)
        go_ret
        exact ⟨by rw [HNO.out, z0]; rfl, ((hx3.trans' (Ext.alloc' w3 _)).trans' hx4).trans' (Ext.alloc' w4 _)⟩
      have hd : decide (k.f < 0) = false := decide_eq_false hf0
      have hen : k.d.enc = enc (2 * k.z.toNat + 1) ++ enc k.f.toNat := by unfold Dp.enc; rw [if_pos c1]; rfl
      have hfi : fineB k.d = true := by unfold fineB; rw [c1, Bool.true_and, Bool.or_eq_true]; exact .inl (decide_eq_true (by show 0 ≤ k.f; omega))
      obtain ⟨fn, hfn⟩ := Int.eq_ofNat_of_zero_le (show 0 ≤ k.f by omega)
      obtain ⟨zn, hzn⟩ := Int.eq_ofNat_of_zero_le (show 0 ≤ k.z by omega)
      rw [hfn, hzn, Int.toNat_natCast, Int.toNat_natCast] at hen
      have hw1 : ∀ w', Calls Try.prog 77 #[.int .u64 (2 * (zn : Int) + 1)] w' (Ret (.int .i64 (enc (2 * zn + 1)).length) w') := fun w' => by
        have h := width_any (2 * zn + 1) (by omega) w'
        rwa [show ((2 * zn + 1 : Nat) : Int) = 2 * (zn : Int) + 1 by omega] at h
      have hw2 : ∀ w', Calls Try.prog 77 #[.int .u64 (fn : Int)] w' (Ret (.int .i64 (enc fn).length) w') := fun w' => width_any fn (by omega) w'
      have hl1 := enc_le10 (v := 2 * zn + 1) (by omega)
      have hl2 := enc_le10 (v := fn) (by omega)
      have hs1 : RowKit.wrap64 (RowKit.wrap64 (costTo L j : Int) + (((enc (2 * zn + 1)).length : Int) + ((enc fn).length : Int))) = RowKit.wrap64 (costTo L (j + 1) : Int) := by
        rw [wrap_add, HST.out, hen, List.length_append]
        congr 1
      have hf2 : ((L.take (j + 1)).map Od.d).all fineB = true := by rw [HTS.out, List.all_append, HF.out, Bool.true_and]; simp [hfi]
      have HS1 := Lib.hid hs1
      have HF2 := Lib.hid hf2
      rw [hfn, hzn] at HPC
      rw [hfn] at hd hf0 hkf
      rw [hzn] at hkz h1
      clear hs1 hf2 hfi hen c1 c2 hkl
      go_wp2_with (first
        | ((with_reducible refine atSlot 17 ?_); refine wpList_of_wp rfl (owp_ix (o := ⟨some 17, _, _, _, _, _⟩) _ _ rfl Try.elO rfl hr1 j rfl rfl hjn ?_); intro b3 o3 hc3; have hrg3 := od_range HK.out hc3; clear hc3)
        | ((with_reducible refine atSlot 18 ?_); refine wpList_of_wp rfl (wp_load_mid (op := ⟨some 18, _, _, _, _, _⟩) 39 _ rfl b3 o3 rfl k.cells _ hrg3 Try.underlying39 rfl (by kernel_rfl) ?_); simp only [Od.cells])
        | (go_at_call 74; (with_reducible refine (HPC.out _ HKL.out).mono ?_); rintro e w4 ⟨rfl, hx4⟩; clear hrg3)
        | fail)
      have hbx := heap_alloc_new w4 (.cells #[.int .i64 (fn : Int), .int .i64 (zn : Int)] 85)
      have E4 := (hx3.trans' (Ext.alloc' w3 (.cells #[.int .i64 (fn : Int), .int .i64 (zn : Int), .slice k.a k.n k.c] 39))).trans' (hx4.trans' (Ext.alloc' w4 (.cells #[.int .i64 (fn : Int), .int .i64 (zn : Int)] 85)))
      generalize w4.alloc (.cells #[.int .i64 (fn : Int), .int .i64 (zn : Int)] 85) = w5 at hbx E4 ⊢
      have u1 : IntKind.u64.wrap (zn : Int) = (zn : Int) := by rw [IntKind.wrap_u64]; omega
      have u2 : IntKind.u64.wrap (2 * (zn : Int)) = 2 * (zn : Int) := by rw [IntKind.wrap_u64]; omega
      have u3 : IntKind.u64.wrap (2 * (zn : Int) + 1) = 2 * (zn : Int) + 1 := by rw [IntKind.wrap_u64]; omega
      have u4 : IntKind.u64.wrap (fn : Int) = (fn : Int) := by rw [IntKind.wrap_u64]; omega
      have u5 : IntKind.i64.wrap (((enc (2 * zn + 1)).length : Int) + ((enc fn).length : Int)) = ((enc (2 * zn + 1)).length : Int) + ((enc fn).length : Int) := by rw [IntKind.wrap_i64]; omega
      refine wp_region_e [] (.qs [0, 1, 2, 3, 4, 5, 6, 7, 8, 9, 10, 11, 12, 13] .nil) (by kernel_rfl) (by kernel_rfl) ?_
      iterate 2 ((refine wpY_q rfl rfl _ (fun w' hx' => by go_simp; try rfl) ?_; go_simp))
      refine wpY_q rfl rfl (.int .i64 (zn : Int)) (fun w' hx' => by have hb' := fun j => cell_of_row w' w4.heap.size j _ _ _ ((show Ext w5 w' from hx').heap' hbx); go_simp; try rfl) ?_
      go_simp
      iterate 3 ((refine wpY_q rfl rfl _ (fun w' hx' => by go_simp; try rfl) ?_; go_simp))
      ((refine wpY_call rfl rfl _ _ _ (fun w' => by (try go_simp); first | done | rfl | exact ⟨rfl, rfl⟩ | exact ⟨rfl, rfl, rfl⟩) (fun w' _ => hw1 w') ?_; go_simp))
      ((refine wpY_q rfl rfl _ (fun w' hx' => by go_simp; try rfl) ?_; go_simp))
      refine wpY_q rfl rfl (.int .i64 (fn : Int)) (fun w' hx' => by have hb' := fun j => cell_of_row w' w4.heap.size j _ _ _ ((show Ext w5 w' from hx').heap' hbx); go_simp; try rfl) ?_
      go_simp
      ((refine wpY_q rfl rfl _ (fun w' hx' => by go_simp; try rfl) ?_; go_simp))
      ((refine wpY_call rfl rfl _ _ _ (fun w' => by (try go_simp); first | done | rfl | exact ⟨rfl, rfl⟩ | exact ⟨rfl, rfl, rfl⟩) (fun w' _ => hw2 w') ?_; go_simp))
      iterate 3 ((refine wpY_q rfl rfl _ (fun w' hx' => by go_simp; try rfl) ?_; go_simp))
      refine wpY_nil ?_
      go_simp
      clear u1 u2 u3 u4 u5
      have E5 := E4.trans' (Ext.drew' w5)
      go_wp2
      go_roundw
      case rel => exact ⟨j + 1, by go_num, by first | exact congrArg (Value.int IntKind.i64) HS1.out | exact congrArg (Value.int IntKind.i64) ((IntWalk.i64_left _).trans HS1.out), by have := HLN.out; omega, HF2.out, E5⟩
      case measure => simp [intOf]; omega
    · have c1' : ¬ k.d.copies = true := by rw [c1]; simp
      rw [if_neg c1', if_pos c2] at hpv
      subst hpv
      have hen : k.d.enc = enc (2 * k.n) ++ k.l := by unfold Dp.enc; rw [c1]; simp only [Bool.false_eq_true, if_false]; rw [← hkl]; rfl
      have hfi : fineB k.d = true := by unfold fineB; rw [c2, Bool.or_true]
      have hw1 : ∀ w', Calls Try.prog 77 #[.int .u64 (2 * (k.n : Int))] w' (Ret (.int .i64 (enc (2 * k.n)).length) w') := fun w' => by
        have h := width_any (2 * k.n) (by omega) w'
        rwa [show ((2 * k.n : Nat) : Int) = 2 * (k.n : Int) by omega] at h
      have hl1 := enc_le10 (v := 2 * k.n) (by omega)
      have hs1 : RowKit.wrap64 (RowKit.wrap64 (costTo L j : Int) + (((enc (2 * k.n)).length : Int) + (k.n : Int))) = RowKit.wrap64 (costTo L (j + 1) : Int) := by
        rw [wrap_add, HST.out, hen, List.length_append, hkl]
        congr 1
      have hf2 : ((L.take (j + 1)).map Od.d).all fineB = true := by rw [HTS.out, List.all_append, HF.out, Bool.true_and]; simp [hfi]
      have HS1 := Lib.hid hs1
      have HF2 := Lib.hid hf2
      clear hs1 hf2 hfi hen c1 c1' c2 hkl h1 h2
      go_wp2_with (first
        | ((with_reducible refine atSlot 17 ?_); refine wpList_of_wp rfl (owp_ix (o := ⟨some 17, _, _, _, _, _⟩) _ _ rfl Try.elO rfl hr1 j rfl rfl hjn ?_); intro b3 o3 hc3; have hrg3 := od_range HK.out hc3; clear hc3)
        | ((with_reducible refine atSlot 18 ?_); refine wpList_of_wp rfl (wp_load_mid (op := ⟨some 18, _, _, _, _, _⟩) 39 _ rfl b3 o3 rfl k.cells _ hrg3 Try.underlying39 rfl (by kernel_rfl) ?_); simp only [Od.cells])
        | (go_at_call 74; (with_reducible refine (HPC.out _ HKL.out).mono ?_); rintro e w4 ⟨rfl, hx4⟩; clear hrg3)
        | fail)
      have hbx := heap_alloc_new w4 (.cells #[.slice k.a k.n k.c] 89)
      have E4 := (hx3.trans' (Ext.alloc' w3 (.cells #[.int .i64 k.f, .int .i64 k.z, .slice k.a k.n k.c] 39))).trans' (hx4.trans' (Ext.alloc' w4 (.cells #[.slice k.a k.n k.c] 89)))
      generalize w4.alloc (.cells #[.slice k.a k.n k.c] 89) = w5 at hbx E4 ⊢
      have u1 : IntKind.u64.wrap (k.n : Int) = (k.n : Int) := by rw [IntKind.wrap_u64]; omega
      have u2 : IntKind.u64.wrap (2 * (k.n : Int)) = 2 * (k.n : Int) := by rw [IntKind.wrap_u64]; omega
      have u5 : IntKind.i64.wrap (((enc (2 * k.n)).length : Int) + (k.n : Int)) = ((enc (2 * k.n)).length : Int) + (k.n : Int) := by rw [IntKind.wrap_i64]; omega
      refine wp_region_e [] (.qs [0, 1, 2, 3, 4, 5, 6, 7, 8, 9, 10, 11, 12] .nil) (by kernel_rfl) (by kernel_rfl) ?_
      iterate 2 ((refine wpY_q rfl rfl _ (fun w' hx' => by go_simp; try rfl) ?_; go_simp))
      refine wpY_q rfl rfl (.slice k.a k.n k.c) (fun w' hx' => by have hb' := fun j => cell_of_row w' w4.heap.size j _ _ _ ((show Ext w5 w' from hx').heap' hbx); go_simp; try rfl) ?_
      go_simp
      iterate 3 ((refine wpY_q rfl rfl _ (fun w' hx' => by go_simp; try rfl) ?_; go_simp))
      ((refine wpY_call rfl rfl _ _ _ (fun w' => by (try go_simp); first | done | rfl | exact ⟨rfl, rfl⟩ | exact ⟨rfl, rfl, rfl⟩) (fun w' _ => hw1 w') ?_; go_simp))
      ((refine wpY_q rfl rfl _ (fun w' hx' => by go_simp; try rfl) ?_; go_simp))
      refine wpY_q rfl rfl (.slice k.a k.n k.c) (fun w' hx' => by have hb' := fun j => cell_of_row w' w4.heap.size j _ _ _ ((show Ext w5 w' from hx').heap' hbx); go_simp; try rfl) ?_
      go_simp
      iterate 4 ((refine wpY_q rfl rfl _ (fun w' hx' => by go_simp; try rfl) ?_; go_simp))
      refine wpY_nil ?_
      go_simp
      clear u1 u2 u5
      have E5 := E4.trans' (Ext.drew' w5)
      go_wp2
      go_roundw
      case rel => exact ⟨j + 1, by go_num, by first | exact congrArg (Value.int IntKind.i64) HS1.out | exact congrArg (Value.int IntKind.i64) ((IntWalk.i64_left _).trans HS1.out), by have := HLN.out; omega, HF2.out, E5⟩
      case measure => simp [intOf]; omega
    · have c1' : ¬ k.d.copies = true := by rw [c1]; simp
      have c2' : ¬ k.d.literal = true := by rw [c2]; simp
      rw [if_neg c1', if_neg c2'] at hpv
      subst hpv
      have hno : costD (L.map Od.d) = 0 := costD_no HM.out (by unfold fineB; rw [c1, c2]; rfl)
      have HNO := Lib.hid hno
      clear hno c1 c2 c1' c2' hkl
      go_wp2_with (first
        | ((with_reducible refine atSlot 17 ?_); refine wpList_of_wp rfl (owp_ix (o := ⟨some 17, _, _, _, _, _⟩) _ _ rfl Try.elO rfl hr1 j rfl rfl hjn ?_); intro b3 o3 hc3; have hrg3 := od_range HK.out hc3; clear hc3)
        | ((with_reducible refine atSlot 18 ?_); refine wpList_of_wp rfl (wp_load_mid (op := ⟨some 18, _, _, _, _, _⟩) 39 _ rfl b3 o3 rfl k.cells _ hrg3 Try.underlying39 rfl (by kernel_rfl) ?_); simp only [Od.cells])
        | (go_at_call 74; (with_reducible refine (HPC.out _ HKL.out).mono ?_); rintro e w4 ⟨rfl, hx4⟩; clear hrg3)
        | fail)
      go_ret
      exact ⟨by rw [HNO.out, z0]; rfl, ((hx3.trans' (Ext.alloc' w3 _)).trans' hx4).trans' (Ext.alloc' w4 _)⟩
end Go.Proofs.Ytcljlglmnagodaa
