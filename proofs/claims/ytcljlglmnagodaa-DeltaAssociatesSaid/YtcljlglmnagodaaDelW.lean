/-
  Normalize, the reference's; the law DeltaNormalizes.
-/
import Derived.Test.YtcljlglmnagodaaDelV
import Derived.Test.YtcljlglmnagodaaDelQ
import Derived.Test.YtcljlglmnagodaaDelR
namespace Go.Proofs.Ytcljlglmnagodaa
open Go.RowKit

def RzRel (w1 : World) (b : Nat) (L : List Od) (out i : Value) (wr : World) : Prop :=
  ∃ (j n c : Nat) (a : Option Addr) (L' : List Od), i = .int .i64 j ∧ out = .slice a n c ∧ j ≤ L.length ∧ Ops wr a n c L' ∧ Way b (sizeD ((L.take j).map Od.d)) (L'.map Od.d) ∧ L'.map Od.d = normD ((L.take j).map Od.d) ∧ Ext w1 wr

set_option maxRecDepth 100000 in
set_option maxHeartbeats 4000000 in
theorem refNormalize_any (base : Int) (a : Option Addr) (n c : Nat) (L : List Od) (w : World) (hL : Ops w a n c L) (hn : n ≤ 140737488355328) {D : List Dp} {er : Int} (hr : nrRes base (L.map Od.d) = (D, er)) :
    Calls Try.prog 38 #[.int .i64 base, .slice a n c] w (OpsRes w D er) := by
  obtain ⟨n0, e0, hck⟩ : ∃ n0 e0, ckRes base (L.map Od.d) = (n0, e0) := ⟨_, _, rfl⟩
  unfold nrRes at hr
  rw [hck] at hr
  simp only at hr
  by_cases he : e0 = 0
  rotate_left
  · rw [if_neg he] at hr
    cases hr
    obtain ⟨q1, q2⟩ := neI he
    have HCK := Lib.hid hck
    clear hck he
    go_enter Try.func38, Try.ntmps38
    go_wp2_with (go_at_call 33; (with_reducible refine (refCheck_any base a n c L _ hL hn HCK.out).mono ?_); rintro e w1 ⟨rfl, hx1⟩)
    go_ret2
    exact ⟨none, 0, 0, [], rfl, Ops.nil _, rfl, hx1⟩
  subst he
  simp only [if_true, Prod.mk.injEq] at hr
  obtain ⟨rfl, rfl⟩ := hr
  obtain ⟨hok, hn0, hsz, hb0, hb1, hcnt⟩ := ckRes_ok hck
  obtain ⟨b, rfl⟩ := Int.eq_ofNat_of_zero_le hb0
  rw [List.length_map, hL.1] at hcnt
  have hb2 : b ≤ 1048576 := by omega
  have HCK := Lib.hid hck
  have HLN := Lib.hid hL.1
  have HOK := Lib.hid hok
  have HSZ := Lib.hid hsz
  have hrow := hL.2.1
  clear hck hok hsz hn0 hb0 hb1
  go_enter Try.func38, Try.ntmps38
  go_wp2_with (first
    | (go_at_call 33; (with_reducible refine (refCheck_any b a n c L _ hL hn HCK.out).mono ?_); rintro e w1 ⟨rfl, hx1⟩)
    | fail)
  go_loopw [8, 9] (RzRel w1 b L) (fun _ i _ => n - (intOf i).toNat)
  case atStart => exact ⟨0, 0, 0, none, [], rfl, rfl, Nat.zero_le _, Ops.nil _, Way.nil _, rfl, Below.refl _ _⟩
  case round =>
    obtain ⟨j, bn, bc, ba, L', rfl, rfl, hj, hO, hW, hD, hx3⟩ := hrel
    rename World => w3
    have hjn' : j ≤ n := by have := HLN.out; omega
    by_cases hjn : j < n
    rotate_left
    · obtain rfl : j = n := by omega
      have hD' := hD
      rw [List.take_of_length_le (by have := HLN.out; omega)] at hD'
      have HD := Lib.hid hD'
      clear hD hD' hW
      go_wp2
      go_ret2
      exact ⟨ba, bn, bc, L', rfl, hO, HD.out, hx1.trans' hx3⟩
    obtain ⟨k, hk⟩ : ∃ k, L[j]? = some k := ⟨_, List.getElem?_eq_getElem (by have := HLN.out; omega)⟩
    have hkI := (hL.2.2 k (List.mem_of_getElem? hk)).ext (hx1.trans' hx3)
    have hkok := HOK.out k.d (List.mem_map_of_mem (List.mem_of_getElem? hk))
    have hks := sizeD_mem (List.mem_map_of_mem (f := Od.d) (List.mem_of_getElem? hk))
    have hss := size_take hk
    have hWB := hW.bounds hO
    have hfew : bn ≤ 1048576 := by have := hWB.few; have := hO.1; have := HSZ.out; have := size_take_le L j; omega
    have hshort : ∀ y ∈ L', y.n ≤ 1000000000000 := fun y hy => by have := hWB.short y hy; have := HSZ.out; have := size_take_le L j; omega
    have hsum : ∀ y ∈ L', y.f + y.z ≤ 1000000000000 := fun y hy => by have := hWB.sum y hy; omega
    have hWn := hW.add hkok
    rw [← hss] at hWn
    have hDn : addD (L'.map Od.d) k.d = normD ((L.take (j + 1)).map Od.d) := by rw [norm_snoc hk, hD]
    have hkn : k.n ≤ 1000000000000 := by
      have h1 := (nice_size hkok.fine.nice).2
      have h2 := hkI.1.len
      have h3 : k.d.l.length = k.n := h2
      have := HSZ.out
      omega
    have hkz : k.f + k.z ≤ 1000000000000 := by
      rcases hkok with ⟨_, h1, h2⟩ | hl
      · have h3 : k.f + k.z ≤ b := h2
        omega
      · simp only [Dp.literal, Bool.and_eq_true, decide_eq_true_eq] at hl
        have h3 : k.z = 0 := hl.1.1
        have h4 : k.f = 0 := hl.1.2
        omega
    have hadd := refAdd_any ba bn bc L' k 1000000000000 w3 hO (by omega) hkI hkn hshort (by omega) hkok.fine hWB.fine hkz hsum
    have hr1 := hrow.ext (hx1.trans' hx3)
    have HK := Lib.hid hk
    have HWN := Lib.hid hWn
    have HDN := Lib.hid hDn
    clear hk hD hW hWB hWn hDn hkok hks hss hshort hsum hkz hkn hkI
    go_wp2_with (first
      | ((with_reducible refine atSlot 28 ?_); refine wpList_of_wp rfl (owp_ix (o := ⟨some 28, _, _, _, _, _⟩) _ _ rfl Try.elO rfl hr1 j rfl rfl hjn ?_); intro b3 o3 hc3; have hrg3 := od_range HK.out hc3; clear hc3)
      | ((with_reducible refine atSlot 29 ?_); refine wpList_of_wp rfl (wp_load_mid (op := ⟨some 29, _, _, _, _, _⟩) 39 _ rfl b3 o3 rfl k.cells _ hrg3 Try.underlying39 rfl (by kernel_rfl) ?_); simp only [Od.cells])
      | (go_at_call 73; (with_reducible refine hadd.mono ?_); rintro e w4 ⟨a4, n4, c4, L4, rfl, hL4, hD4, -, hx4⟩; clear hadd hrg3; have HD4 := Lib.hid hD4; clear hD4)
      | fail)
    go_roundw
    case rel => exact ⟨j + 1, n4, c4, a4, L4, by go_num, rfl, by have := HLN.out; omega, hL4, by rw [HD4.out]; exact HWN.out, by rw [HD4.out]; exact HDN.out, hx3.trans' hx4⟩
    case measure => simp [intOf]; omega

/-! ### What Normalize returns -/
theorem normD_idem {os : List Dp} (h : ∀ o ∈ os, o.fine) : normD (normD os) = normD os := by rw [normD_eq h, norm_norm]
theorem nr_ok {b : Nat} {os : List Dp} {n : Int} (h : ckRes b os = (n, 0)) : ckRes b (normD os) = (n, 0) ∧ Nm (normD os) ∧ nrRes b os = (normD os, 0) ∧ nrRes b (normD os) = (normD os, 0) ∧ (normD os).length ≤ 4096 := by
  obtain ⟨h1, h2, h3, h4, h5, h6⟩ := ckRes_ok h
  have hf : ∀ o ∈ os, o.fine := fun o ho => (h1 o ho).fine
  have e := normD_eq hf
  have hok : ∀ o ∈ normD os, o.ok b := by rw [e]; exact norm_ok (atomsD_below h1)
  have hs : sizeD (normD os) = sizeD os := by rw [← atomsD_length, e, atoms_norm, atomsD_length]
  have hl : (normD os).length ≤ 4096 := by
    have := normD_length_le os []
    unfold normD
    simp only [List.length_nil, Nat.zero_add] at this
    omega
  have hc : ckRes b (normD os) = (n, 0) := by
    rw [ckRes_mk h4 h5 hok (by omega) hl, hs, h2]
  refine ⟨hc, by rw [e]; exact norm_nm _, ?_, ?_, hl⟩
  · unfold nrRes; rw [h]; rfl
  · unfold nrRes; rw [hc, normD_idem hf]; rfl
theorem nr_apply {b : List UInt8} {os : List Dp} {n : Int} (h : ckRes b.length os = (n, 0)) : apRes b os = (appD b os, 0) ∧ apRes b (normD os) = (appD b os, 0) := by
  obtain ⟨h1, -⟩ := ckRes_ok h
  obtain ⟨h2, -⟩ := nr_ok h
  have hf : ∀ o ∈ os, o.fine := fun o ho => (h1 o ho).fine
  have e := normD_eq hf
  have hok : ∀ o ∈ normD os, o.ok b.length := by rw [e]; exact norm_ok (atomsD_below h1)
  refine ⟨by unfold apRes; rw [h]; rfl, ?_⟩
  unfold apRes
  rw [h2]
  simp only [if_true]
  rw [← atomsD_read hok, e, atoms_norm, atomsD_read h1]
end Go.Proofs.Ytcljlglmnagodaa
