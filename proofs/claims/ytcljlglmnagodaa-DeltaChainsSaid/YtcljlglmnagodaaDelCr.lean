/-
  Compose, the reference's.
-/
import Derived.Test.YtcljlglmnagodaaDelCp
namespace Go.Proofs.Ytcljlglmnagodaa
open Go.RowKit

def CrRel (w : World) (b : Nat) (A B : List Dp) (out i : Value) (wr : World) : Prop :=
  ∃ (j n c : Nat) (a : Option Addr) (L2 : List Od), i = .int .i64 j ∧ out = .slice a n c ∧ j ≤ B.length ∧ Ops wr a n c L2 ∧ Way b (sizeD (B.take j)) (L2.map Od.d) ∧ L2.map Od.d = normD (seqC A (B.take j)) ∧ Ext w wr

set_option maxRecDepth 100000 in
set_option maxHeartbeats 8000000 in
theorem refCompose_any (base : Int) (a1 : Option Addr) (n1 c1 : Nat) (L1 : List Od) (a2 : Option Addr) (n2 c2 : Nat) (L2 : List Od) (w : World) (h1 : Ops w a1 n1 c1 L1) (h2 : Ops w a2 n2 c2 L2) (hn1 : n1 ≤ 140737488355328) (hn2 : n2 ≤ 140737488355328)
    {D : List Dp} {er : Int} (hr : compRes base (L1.map Od.d) (L2.map Od.d) = (D, er)) :
    Calls Try.prog 44 #[.int .i64 base, .slice a1 n1 c1, .slice a2 n2 c2] w (OpsRes w D er) := by
  obtain ⟨m0, e0, hck⟩ : ∃ m0 e0, ckRes base (L1.map Od.d) = (m0, e0) := ⟨_, _, rfl⟩
  unfold compRes at hr
  rw [hck] at hr
  simp only at hr
  by_cases he : e0 = 0
  rotate_left
  · rw [if_pos he] at hr
    cases hr
    obtain ⟨q1, q2⟩ := neI he
    have HCK := Lib.hid hck
    clear hck he
    go_enter Try.func44, Try.ntmps44
    go_wp2_with (first
      | (go_at_call 33; (with_reducible refine (refCheck_any base a1 n1 c1 L1 _ h1 hn1 HCK.out).mono ?_); rintro e w1 ⟨rfl, hx1⟩)
      | fail)
    go_ret2
    exact ⟨none, 0, 0, [], rfl, Ops.nil _, rfl, hx1⟩
  subst he
  rw [if_neg (by simp)] at hr
  obtain ⟨hok, hn0, hsz, hb0, hb1, hcnt⟩ := ckRes_ok hck
  obtain ⟨b, rfl⟩ := Int.eq_ofNat_of_zero_le hb0
  rw [List.length_map, h1.1] at hcnt
  obtain ⟨m2, e2, hck2⟩ : ∃ m2 e2, ckRes m0 (L2.map Od.d) = (m2, e2) := ⟨_, _, rfl⟩
  rw [hck2] at hr
  simp only at hr
  by_cases he : e2 = 0
  rotate_left
  · rw [if_pos he] at hr
    cases hr
    obtain ⟨q1, q2⟩ := neI he
    have HCK := Lib.hid hck
    have HCK2 := Lib.hid hck2
    clear hck hck2 he hn0
    go_enter Try.func44, Try.ntmps44
    go_upto_if 20 with (first
      | (go_at_call 33; (with_reducible refine (refCheck_any b a1 n1 c1 L1 _ h1 hn1 HCK.out).mono ?_); rintro e w1 ⟨rfl, hx1⟩)
      | fail)
    go_wp2_with (first
      | (go_at_call 33; (with_reducible refine (refCheck_any m0 a2 n2 c2 L2 _ (h2.ext hx1) hn2 HCK2.out).mono ?_); rintro e w2 ⟨rfl, hx2⟩)
      | fail)
    go_ret2
    exact ⟨none, 0, 0, [], rfl, Ops.nil _, rfl, hx1.trans' hx2⟩
  subst he
  rw [if_neg (by simp)] at hr
  obtain ⟨hok2, hn02, hsz2, -, -, hcnt2⟩ := ckRes_ok hck2
  rw [List.length_map, h2.1] at hcnt2
  rw [hn0] at hok2
  obtain ⟨A, hA⟩ : ∃ A, A = L1.map Od.d := ⟨_, rfl⟩
  obtain ⟨B, hB⟩ : ∃ B, B = L2.map Od.d := ⟨_, rfl⟩
  rw [← hA] at hok hok2 hsz hr
  rw [← hB] at hok2 hsz2 hr
  have HCK := Lib.hid hck
  have HCK2 := Lib.hid hck2
  have HOK := Lib.hid hok
  have HOK2 := Lib.hid hok2
  have HSZ := Lib.hid hsz
  have HSZ2 := Lib.hid hsz2
  have HR := Lib.hid hr
  have HA := Lib.hid hA
  have HB := Lib.hid hB
  have HL1 := Lib.hid h1.1
  have HL2 := Lib.hid h2.1
  have hrow2 := h2.2.1
  clear hck hck2 hok hok2 hsz hsz2 hr hA hB hn0 hn02 hb0
  go_enter Try.func44, Try.ntmps44
  go_upto_if 20 with (first
    | (go_at_call 33; (with_reducible refine (refCheck_any b a1 n1 c1 L1 _ h1 hn1 HCK.out).mono ?_); rintro e w1 ⟨rfl, hx1⟩)
    | fail)
  go_wp2_with (first
    | (go_at_call 33; (with_reducible refine (refCheck_any m0 a2 n2 c2 L2 _ (h2.ext hx1) hn2 HCK2.out).mono ?_); rintro e w2 ⟨rfl, hx2⟩)
    | fail)
  have hx02 := hx1.trans' hx2
  go_loopw [10, 11] (CrRel w b A B) (fun _ i _ => n2 - (intOf i).toNat)
  case atStart => exact ⟨0, 0, 0, none, [], rfl, rfl, Nat.zero_le _, Ops.nil _, Way.nil _, rfl, hx02⟩
  case round =>
    obtain ⟨j, n, c, a, L, rfl, rfl, hj, hO, hW2, hD2, hx5⟩ := hrel
    rename World => w5
    have hBl : B.length = n2 := by rw [HB.out, List.length_map, HL2.out]
    by_cases hjn : j < n2
    rotate_left
    · obtain rfl : j = n2 := by omega
      have hD' := hD2
      rw [List.take_of_length_le (by omega)] at hD'
      have hR := HR.out
      rw [← hD', List.length_map, hO.1] at hR
      by_cases hlen : 4096 < n
      · rw [if_pos hlen] at hR
        cases hR
        have hd : decide ((4096 : Int) < n) = true := decide_eq_true (by omega)
        clear hD' hD2 hW2 hlen
        go_wp2
        go_ret2
        exact ⟨none, 0, 0, [], rfl, Ops.nil _, rfl, hx5⟩
      · rw [if_neg hlen] at hR
        cases hR
        have hd : decide ((4096 : Int) < n) = false := decide_eq_false (by omega)
        clear hD' hD2 hW2 hlen
        go_wp2
        go_ret2
        exact ⟨a, n, c, L, rfl, hO, rfl, hx5⟩
    obtain ⟨k, hk⟩ : ∃ k, L2[j]? = some k := ⟨_, List.getElem?_eq_getElem (by have := HL2.out; omega)⟩
    have hkB : B[j]? = some k.d := by rw [HB.out, List.getElem?_map, hk]; rfl
    have hkI := (h2.2.2 k (List.mem_of_getElem? hk)).ext hx5
    have hkl := hkI.1.len
    have hkok := HOK2.out k.d (List.mem_of_getElem? hkB)
    have hfA : ∀ x ∈ A, x.fine := fun x hx => (HOK.out x hx).fine
    have hst := sizeD_take_succ hkB
    have hle := sizeD_take_le B (j + 1)
    have hnc := normC_snoc A hkB
    have hoz := oneC_size hfA hkok
    rw [← hD2] at hnc
    have hWn := hW2.addAll (oneC_ok HOK.out hkok)
    rw [hoz, ← hst, ← hnc] at hWn
    obtain ⟨Dn, hDn⟩ : ∃ Dn, Dn = normD (seqC A (B.take (j + 1))) := ⟨_, rfl⟩
    rw [← hDn] at hnc hWn
    have hr1 := hrow2.ext hx5
    have hsz2 := HSZ2.out
    obtain ⟨Mj, hMj⟩ : ∃ Mj, Mj = sizeD (B.take j) := ⟨_, rfl⟩
    rw [← hMj] at hst hW2
    have hMk : Mj + k.d.size ≤ 1048576 := by omega
    have hWB := hW2.bounds hO
    have hfew : n ≤ 1048576 := by have := hWB.few; have := hO.1; omega
    have hshort : ∀ y ∈ L, y.n ≤ 1000000000000 := fun y hy => by have := hWB.short y hy; omega
    have hsum : ∀ y ∈ L, y.f + y.z ≤ 1000000000000 := fun y hy => by have := hWB.sum y hy; omega
    have HK := Lib.hid hk
    have HKI := Lib.hid hkI
    have HKL := Lib.hid hkl
    have HKOK := Lib.hid hkok
    have HNC := Lib.hid hnc
    have HWN := Lib.hid hWn
    have HDN := Lib.hid hDn
    have HW2 := Lib.hid hW2
    have hcp := Copies_any k
    have HFI := Lib.hid hWB.fine
    have HSH := Lib.hid hshort
    have HSU := Lib.hid hsum
    clear hk hkB hkI hkl hkok hfA hst hle hnc hoz hWn hDn hD2 hsz2 hMj hW2 hWB hshort hsum
    have hx6 := Ext.alloc' w5 (.cells #[.int .i64 k.f, .int .i64 k.z, .slice k.a k.n k.c] 39)
    have hb6 := heap_alloc_new w5 (.cells #[.int .i64 k.f, .int .i64 k.z, .slice k.a k.n k.c] 39)
    rcases od_cases k HKL.out with ⟨d1, d2, g1, g2⟩ | ⟨d1, d2, g1, g2, g3⟩ | ⟨d1, d2, -, -⟩
    · have hk3 : 0 ≤ k.f ∧ k.f + k.z ≤ sizeD A := by
        rcases HKOK.out with h | h
        · exact h.2
        · rw [d2] at h; cases h
      obtain ⟨hk3, hk4⟩ := hk3
      have hsA := HSZ.out
      have u1 : IntKind.i64.wrap (k.f + k.z) = k.f + k.z := by rw [IntKind.wrap_i64]; omega
      have hone : oneC A k.d = partF k.f.toNat (k.f + k.z).toNat 0 A := by unfold oneC; rw [if_pos d1]; rfl
      have hks : k.d.size = k.z.toNat := by unfold Dp.size; rw [d1]; rfl
      have hcu : ∀ w', Ext w5 w' → Calls Try.prog 82 #[.slice a n c, .slice a1 n1 c1, .int .i64 k.f, .int .i64 (k.f + k.z)] w' (PartR w' Dn) := fun w' h => by
        have h3 := refPart_any a n c L a1 n1 c1 L1 b Mj k.f.toNat (k.f + k.z).toNat w' (hO.ext h) HW2.out (h1.ext (hx5.trans' h)) (fun y hy => HOK.out y.d (by rw [HA.out]; exact List.mem_map_of_mem hy)) (by omega) (by rw [← HA.out]; omega) (by rw [← HA.out]; exact hsA) (by omega) (by omega) hcnt
        rw [← HA.out, ← hone, ← HNC.out, show ((k.f.toNat : Nat) : Int) = k.f by omega, show (((k.f + k.z).toNat : Nat) : Int) = k.f + k.z by omega] at h3
        exact h3
      have hcp2 := fun w' => hcp w' HKL.out
      rw [d1] at hcp2
      have HCU := Lib.hid hcu
      have HCP := Lib.hid hcp2
      clear hcu hone hks d1 d2 g2 hcp hcp2
      go_wp2_with (first
        | ((with_reducible refine atSlot 39 ?_); refine wpList_of_wp rfl (owp_ix (o := ⟨some 39, _, _, _, _, _⟩) _ _ rfl Try.elO rfl hr1 j rfl rfl hjn ?_); intro b3 o3 hc3; have hrg3 := od_range HK.out hc3; clear hc3)
        | ((with_reducible refine atSlot 40 ?_); refine wpList_of_wp rfl (wp_load_mid (op := ⟨some 40, _, _, _, _, _⟩) 39 _ rfl b3 o3 rfl k.cells _ hrg3 Try.underlying39 rfl (by kernel_rfl) ?_); simp only [Od.cells])
        | (go_at_call 75; (with_reducible refine (HCP.out _).mono ?_); rintro e1 w6 ⟨rfl, hx7⟩; have hbk6 := fun i => cell_of_row w6 w5.heap.size i _ _ _ (hx7.heap' hb6))
        | (go_at_call 82; (with_reducible refine (HCU.out _ (hx6.trans' hx7)).mono ?_); rintro e2 w7 ⟨a8, n8, c8, L8, rfl, hO8, hD8, hx8⟩; have HD8 := Lib.hid hD8; clear hD8)
        | fail)
      go_roundw
      case rel => exact ⟨j + 1, n8, c8, a8, L8, by go_num, rfl, by omega, hO8, by rw [HD8.out]; exact HWN.out, by rw [HD8.out]; exact HDN.out, ((hx5.trans' hx6).trans' hx7).trans' hx8⟩
      case measure => simp [intOf]; omega
    · have hone : oneC A k.d = [k.d] := by unfold oneC; rw [d1]; rfl
      have hks : k.d.size = k.n := by unfold Dp.size; rw [d1]; exact HKL.out
      have hadd : ∀ w', Ext w5 w' → Calls Try.prog 73 #[.slice a n c, .agg #[.int .i64 k.f, .int .i64 k.z, .slice k.a k.n k.c]] w' (NewOps w' Dn (1000000000000 + 1000000000000)) := fun w' h => by
        have h3 := refAdd_any a n c L k 1000000000000 w' (hO.ext h) (by omega) (HKI.out.ext h) (by omega) HSH.out (by omega) HKOK.out.fine HFI.out (by omega) HSU.out
        have h4 := HNC.out
        rw [hone] at h4
        rw [show addD (L.map Od.d) k.d = Dn from h4.symm] at h3
        exact h3
      have hcp2 := fun w' => hcp w' HKL.out
      rw [d1] at hcp2
      have HADD := Lib.hid hadd
      have HCP := Lib.hid hcp2
      clear hadd hone hks d1 d2 g1 g2 g3 hcp hcp2
      go_wp2_with (first
        | ((with_reducible refine atSlot 39 ?_); refine wpList_of_wp rfl (owp_ix (o := ⟨some 39, _, _, _, _, _⟩) _ _ rfl Try.elO rfl hr1 j rfl rfl hjn ?_); intro b3 o3 hc3; have hrg3 := od_range HK.out hc3; clear hc3)
        | ((with_reducible refine atSlot 40 ?_); refine wpList_of_wp rfl (wp_load_mid (op := ⟨some 40, _, _, _, _, _⟩) 39 _ rfl b3 o3 rfl k.cells _ hrg3 Try.underlying39 rfl (by kernel_rfl) ?_); simp only [Od.cells])
        | (go_at_call 75; (with_reducible refine (HCP.out _).mono ?_); rintro e1 w6 ⟨rfl, hx7⟩; have hbk6 := fun i => cell_of_row w6 w5.heap.size i _ _ _ (hx7.heap' hb6))
        | (go_at_call 73; (with_reducible refine (HADD.out _ (hx6.trans' hx7)).mono ?_); rintro e2 w7 ⟨a8, n8, c8, L8, rfl, hO8, hD8, -, hx8⟩; have HD8 := Lib.hid hD8; clear hD8)
        | fail)
      go_roundw
      case rel => exact ⟨j + 1, n8, c8, a8, L8, by go_num, rfl, by omega, hO8, by rw [HD8.out]; exact HWN.out, by rw [HD8.out]; exact HDN.out, ((hx5.trans' hx6).trans' hx7).trans' hx8⟩
      case measure => simp [intOf]; omega
    · exfalso
      rcases HKOK.out with h | h
      · rw [d1] at h; cases h.1
      · rw [d2] at h; cases h
end Go.Proofs.Ytcljlglmnagodaa
