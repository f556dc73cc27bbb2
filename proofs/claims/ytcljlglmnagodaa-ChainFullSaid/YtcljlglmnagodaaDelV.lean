/-
  Normalize, the program's and the reference's.
-/
import Derived.Test.YtcljlglmnagodaaDelJ
import Derived.Test.YtcljlglmnagodaaDelF
import Derived.Test.YtcljlglmnagodaaDelK
namespace Go.Proofs.Ytcljlglmnagodaa
open Go.RowKit

def nrRes (base : Int) (os : List Dp) : List Dp × Int := if (ckRes base os).2 = 0 then (normD os, 0) else ([], (ckRes base os).2)
theorem norm_snoc {L : List Od} {j : Nat} {k : Od} (hk : L[j]? = some k) : normD ((L.take (j + 1)).map Od.d) = addD (normD ((L.take j).map Od.d)) k.d := by
  rw [take_map_succ hk]; unfold normD; rw [List.foldl_append]; rfl
theorem size_take {L : List Od} {j : Nat} {k : Od} (hk : L[j]? = some k) : sizeD ((L.take (j + 1)).map Od.d) = sizeD ((L.take j).map Od.d) + k.d.size := by
  rw [take_map_succ hk]; simp [sizeD]
theorem sizeD_app (A B : List Dp) : sizeD (A ++ B) = sizeD A + sizeD B := by simp [sizeD]
theorem size_take_le (L : List Od) (j : Nat) : sizeD ((L.take j).map Od.d) ≤ sizeD (L.map Od.d) := by
  have h1 : L.map Od.d = (L.take j).map Od.d ++ (L.drop j).map Od.d := by rw [← List.map_append, List.take_append_drop]
  rw [h1, sizeD_app]; exact Nat.le_add_right _ _
def NzRel (w1 : World) (b : Nat) (L : List Od) (i : Value) (wr : World) : Prop :=
  ∃ (j n c m : Nat) (a : Option Addr) (L' : List Od), i = .int .i64 j ∧ j ≤ L.length ∧ Bld wr w1.heap.size a n c L' m ∧ Way b (sizeD ((L.take j).map Od.d)) (L'.map Od.d) ∧ L'.map Od.d = normD ((L.take j).map Od.d) ∧ Ext w1 wr

set_option maxRecDepth 100000 in
set_option maxHeartbeats 4000000 in
theorem Normalize_any (base : Int) (a : Option Addr) (n c : Nat) (L : List Od) (w : World) (hL : Ops w a n c L) (hn : n ≤ 140737488355328) {D : List Dp} {er : Int} (hr : nrRes base (L.map Od.d) = (D, er)) :
    Calls Try.prog 37 #[.int .i64 base, .slice a n c] w (OpsRes w D er) := by
  obtain ⟨n0, e0, hck⟩ : ∃ n0 e0, ckRes base (L.map Od.d) = (n0, e0) := ⟨_, _, rfl⟩
  unfold nrRes at hr
  rw [hck] at hr
  simp only at hr
  by_cases he : e0 = 0
  rotate_left
  · rw [if_neg he] at hr
    cases hr
    obtain ⟨q1, q2⟩ := neI he
    have HCK := Lib.hid hck
    clear hck he
    go_enter Try.func37, Try.ntmps37
    go_wp2_with (go_at_call 32; (with_reducible refine (Check_any base a n c L _ hL hn HCK.out).mono ?_); rintro e w1 ⟨rfl, hx1⟩)
    go_ret2
    exact ⟨none, 0, 0, [], rfl, Ops.nil _, rfl, hx1⟩
  subst he
  simp only [if_true, Prod.mk.injEq] at hr
  obtain ⟨rfl, rfl⟩ := hr
  obtain ⟨hok, hn0, hsz, hb0, hb1, hcnt⟩ := ckRes_ok hck
  obtain ⟨b, rfl⟩ := Int.eq_ofNat_of_zero_le hb0
  rw [List.length_map, hL.1] at hcnt
  have hb2 : b ≤ 1048576 := by omega
  have HCK := Lib.hid hck
  have HLN := Lib.hid hL.1
  have HOK := Lib.hid hok
  have HSZ := Lib.hid hsz
  have hrow := hL.2.1
  clear hck hok hsz hn0 hb0 hb1
  go_enter Try.func37, Try.ntmps37
  go_wp2_with (first
    | (go_at_call 32; (with_reducible refine (Check_any b a n c L _ hL hn HCK.out).mono ?_); rintro e w1 ⟨rfl, hx1⟩)
    | fail)
  go_loopw [22] (NzRel w1 b L) (fun i _ => n - (intOf i).toNat)
  case atStart => exact ⟨0, 0, 0, _, none, [], rfl, Nat.zero_le _, Bld.new w1, Way.nil _, rfl, Ext.alloc' w1 _⟩
  case round =>
    obtain ⟨j, bn, bc, bm, ba, L', rfl, hj, hB, hW, hD, hx3⟩ := hrel
    rename World => w3
    have hjn' : j ≤ n := by have := HLN.out; omega
    by_cases hjn : j < n
    rotate_left
    · obtain rfl : j = n := by omega
      have hD' := hD
      rw [List.take_of_length_le (by have := HLN.out; omega)] at hD'
      have HD := Lib.hid hD'
      have hbc := fun i => cell_of_row w3 w1.heap.size i _ _ _ hB.box
      clear hD hD' hW
      go_wp2
      go_ret2
      exact ⟨ba, bn, bc, L', rfl, hB.ops, HD.out, hx1.trans' hx3⟩
    obtain ⟨k, hk⟩ : ∃ k, L[j]? = some k := ⟨_, List.getElem?_eq_getElem (by have := HLN.out; omega)⟩
    have hkd : ∀ w', Ext w w' → Bytes w' k.a k.n k.c k.l := fun w' h => (hL.2.2 k (List.mem_of_getElem? hk)).1.ext h
    have hkok := HOK.out k.d (List.mem_map_of_mem (List.mem_of_getElem? hk))
    have hkl := (hL.2.2 k (List.mem_of_getElem? hk)).1.len
    have hsj := size_take_le L (j + 1)
    have hss := size_take hk
    have hWB := hW.bounds hB.ops
    have hfew : bn ≤ 1048576 := by have := hWB.few; have := hB.len; have := HSZ.out; have := size_take_le L j; omega
    have hshort : ∀ y ∈ L', y.n ≤ 1000000000000 := fun y hy => by have := hWB.short y hy; have := HSZ.out; have := size_take_le L j; omega
    have hsum : ∀ y ∈ L', y.f + y.z ≤ 1000000000000 := fun y hy => by have := hWB.sum y hy; omega
    have hfine := hWB.fine
    have hWn := hW.add hkok
    rw [← hss] at hWn
    have hDn : addD (L'.map Od.d) k.d = normD ((L.take (j + 1)).map Od.d) := by rw [norm_snoc hk, hD]
    have hr1 := hrow.ext (hx1.trans' hx3)
    have HK := Lib.hid hk
    have HKD := Lib.hid hkd
    have HKL := Lib.hid hkl
    have HWN := Lib.hid hWn
    have HDN := Lib.hid hDn
    clear hk hkd hD hW hWB hWn hDn
    obtain ⟨pv, hpv⟩ : ∃ pv, pv = partV k := ⟨_, rfl⟩
    have hpc := partOf_any k
    rw [← hpv] at hpc
    unfold partV at hpv
    have HPC := Lib.hid hpc
    clear hpc
    have hadd : ∀ w', Ext w3 w' → Calls Try.prog 71 #[.pointer (some ⟨w1.heap.size, 0, none⟩), pv] w' (BldR w' w1.heap.size (addD (L'.map Od.d) k.d)) := fun w' h => by
      rcases hkok with ⟨hc, h1, h2⟩ | hl
      · rw [hpv, if_pos hc]
        have hc' := hc
        simp only [Dp.copies, Bool.and_eq_true, decide_eq_true_eq, List.isEmpty_iff] at hc'
        have hd : k.d = ⟨k.f, k.z, []⟩ := by
          have h3 : k.l = [] := hc'.2
          unfold Od.d; rw [h3]
        rw [hd]
        have hz : 1 ≤ k.z := hc'.1
        have hf : 0 ≤ k.f := h1
        have hfz : k.f + k.z ≤ b := h2
        exact addCopy_any w1.heap.size ba bn bc L' bm k.f k.z w' (hB.ext h) (by omega) hfine hsum hf hz (by omega)
      · have hc : ¬ k.d.copies = true := fun hc => by rw [Dp.copies_not_literal hc] at hl; cases hl
        rw [hpv, if_neg hc, if_pos hl]
        have hl' := hl
        simp only [Dp.literal, Bool.and_eq_true, decide_eq_true_eq, Bool.not_eq_true', List.isEmpty_eq_false_iff] at hl'
        have hd : k.d = ⟨0, 0, k.l⟩ := by
          have h3 : k.z = 0 := hl'.1.1
          have h4 : k.f = 0 := hl'.1.2
          unfold Od.d; rw [h3, h4]
        rw [hd]
        have hpos : 0 < k.n := by
          rw [← HKL.out]
          exact List.length_pos_iff.2 hl'.2
        have hkn : k.n ≤ 1000000000000 := by
          have h5 : k.d.size = k.n := by unfold Dp.size; rw [if_neg hc]; exact HKL.out
          have := HSZ.out
          omega
        exact addLit_any w1.heap.size ba bn bc L' bm k.a k.n k.c k.l w' (hB.ext h) (by omega) hfine hshort (HKD.out _ ((hx1.trans' hx3).trans' h)) hpos hkn
    have HADD := Lib.hid hadd
    clear hadd hpv hkok hshort hsum hfine hss hsj
    go_wp2_with (first
      | ((with_reducible refine atSlot 24 ?_); refine wpList_of_wp rfl (owp_ix (o := ⟨some 24, _, _, _, _, _⟩) _ _ rfl Try.elO rfl hr1 j rfl rfl hjn ?_); intro b3 o3 hc3; have hrg3 := od_range HK.out hc3; clear hc3)
      | ((with_reducible refine atSlot 25 ?_); refine wpList_of_wp rfl (wp_load_mid (op := ⟨some 25, _, _, _, _, _⟩) 39 _ rfl b3 o3 rfl k.cells _ hrg3 Try.underlying39 rfl (by kernel_rfl) ?_); simp only [Od.cells])
      | (go_at_call 74; (with_reducible refine (HPC.out _ HKL.out).mono ?_); rintro e w4 ⟨rfl, hx4⟩; clear hrg3; have E4 := (Ext.alloc' w3 (.cells #[.int .i64 k.f, .int .i64 k.z, .slice k.a k.n k.c] 39)).trans' hx4)
      | (go_at_call 71; (with_reducible refine (HADD.out _ E4).mono ?_); rintro e w5 ⟨rfl, hbel, hkeep, a6, n6, c6, L6, m6, hB6, hD6⟩; have HD6 := Lib.hid hD6; clear hD6)
      | fail)
    go_roundw
    case rel => exact ⟨j + 1, n6, c6, m6, a6, L6, by go_num, by have := HLN.out; omega, hB6, by rw [HD6.out]; exact HWN.out, by rw [HD6.out]; exact HDN.out, (hx3.trans' E4).trans hbel⟩
    case measure => simp [intOf]; omega
end Go.Proofs.Ytcljlglmnagodaa
