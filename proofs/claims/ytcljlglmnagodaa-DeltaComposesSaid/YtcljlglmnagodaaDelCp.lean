/-
  Compose, the program's.
-/
import Derived.Test.YtcljlglmnagodaaDelPt
namespace Go.Proofs.Ytcljlglmnagodaa
open Go.RowKit

theorem partF_size {A : List Dp} {s t : Nat} (hA : ∀ o ∈ A, o.fine) (ht : t ≤ sizeD A) : sizeD (partF s t 0 A) = t - s := by
  rw [← atomsD_length, partF_atoms s t A 0 hA, List.length_drop, List.length_take, atomsD_length]; omega
theorem partF_ok {n : Int} (s t : Nat) : ∀ (os : List Dp) (k : Nat), (∀ o ∈ os, o.ok n) → ∀ x ∈ partF s t k os, x.ok n
  | [], _, _, x, hx => by cases hx
  | o :: os, k, h, x, hx => by
    unfold partF at hx
    rcases List.mem_append.1 hx with hx | hx
    · split at hx
      · rename_i hlt
        rw [List.mem_singleton] at hx; subst hx
        exact cutD_ok (h o (List.mem_cons_self ..)) hlt (Nat.min_le_right _ _)
      · cases hx
    · exact partF_ok s t os _ (fun y hy => h y (List.mem_cons_of_mem _ hy)) x hx
/-- What op o of the second delta adds. -/
def oneC (A : List Dp) (o : Dp) : List Dp := if o.copies then partF o.f.toNat (o.f + o.z).toNat 0 A else [o]
theorem seqC_snoc (A : List Dp) {B : List Dp} {j : Nat} {o : Dp} (h : B[j]? = some o) : seqC A (B.take (j + 1)) = seqC A (B.take j) ++ oneC A o := by
  rw [List.take_add_one, h]; unfold seqC oneC; rw [List.flatMap_append]; simp
theorem normC_snoc (A : List Dp) {B : List Dp} {j : Nat} {o : Dp} (h : B[j]? = some o) : normD (seqC A (B.take (j + 1))) = (oneC A o).foldl addD (normD (seqC A (B.take j))) := by
  rw [seqC_snoc A h]; unfold normD; rw [List.foldl_append]
theorem seqC_take_le (A B : List Dp) (j : Nat) : (normD (seqC A (B.take j))).length ≤ (normD (seqC A B)).length := by
  have h : seqC A B = seqC A (B.take j) ++ seqC A (B.drop j) := by unfold seqC; rw [← List.flatMap_append, List.take_append_drop]
  rw [h]; unfold normD; rw [List.foldl_append]; exact normD_length_ge _ _
theorem oneC_ok {n : Int} {A : List Dp} {o : Dp} (hA : ∀ x ∈ A, x.ok n) (ho : o.ok (sizeD A)) : ∀ x ∈ oneC A o, x.ok n := by
  unfold oneC
  rcases ho with ⟨hc, -, -⟩ | hl
  · rw [if_pos hc]; exact partF_ok _ _ A 0 hA
  · have hc : ¬ o.copies = true := fun hc => by rw [Dp.copies_not_literal hc] at hl; cases hl
    rw [if_neg hc]; intro x hx; rw [List.mem_singleton] at hx; subst hx; exact .inr hl
theorem oneC_size {A : List Dp} {o : Dp} (hA : ∀ x ∈ A, x.fine) (ho : o.ok (sizeD A)) : sizeD (oneC A o) = o.size := by
  unfold oneC
  rcases ho with ⟨hc, h1, h2⟩ | hl
  · rw [if_pos hc, partF_size hA (by omega)]
    have hs : o.size = o.z.toNat := by unfold Dp.size; rw [if_pos hc]
    omega
  · have hc : ¬ o.copies = true := fun hc => by rw [Dp.copies_not_literal hc] at hl; cases hl
    rw [if_neg hc]; simp [sizeD]
def CpRel (wS : World) (b : Nat) (A B : List Dp) (i : Value) (wr : World) : Prop :=
  ∃ (j n c m : Nat) (a : Option Addr) (L2 : List Od), i = .int .i64 j ∧ j ≤ B.length ∧ Bld wr wS.heap.size a n c L2 m ∧ Way b (sizeD (B.take j)) (L2.map Od.d) ∧ L2.map Od.d = normD (seqC A (B.take j)) ∧ (L2.map Od.d).length ≤ 4096 ∧ Ext wS wr

set_option maxRecDepth 100000 in
set_option maxHeartbeats 8000000 in
theorem Compose_any (base : Int) (a1 : Option Addr) (n1 c1 : Nat) (L1 : List Od) (a2 : Option Addr) (n2 c2 : Nat) (L2 : List Od) (w : World) (h1 : Ops w a1 n1 c1 L1) (h2 : Ops w a2 n2 c2 L2) (hn1 : n1 ≤ 140737488355328) (hn2 : n2 ≤ 140737488355328)
    {D : List Dp} {er : Int} (hr : compRes base (L1.map Od.d) (L2.map Od.d) = (D, er)) :
    Calls Try.prog 43 #[.int .i64 base, .slice a1 n1 c1, .slice a2 n2 c2] w (OpsRes w D er) := by
  obtain ⟨m0, e0, hck⟩ : ∃ m0 e0, ckRes base (L1.map Od.d) = (m0, e0) := ⟨_, _, rfl⟩
  unfold compRes at hr
  rw [hck] at hr
  simp only at hr
  by_cases he : e0 = 0
  rotate_left
  · rw [if_pos he] at hr
    cases hr
    obtain ⟨q1, q2⟩ := neI he
    have HCK := Lib.hid hck
    clear hck he
    go_enter Try.func43, Try.ntmps43
    go_wp2_with (first
      | (go_at_call 32; (with_reducible refine (Check_any base a1 n1 c1 L1 _ h1 hn1 HCK.out).mono ?_); rintro e w1 ⟨rfl, hx1⟩)
      | fail)
    go_ret2
    exact ⟨none, 0, 0, [], rfl, Ops.nil _, rfl, hx1⟩
  subst he
  rw [if_neg (by simp)] at hr
  obtain ⟨hok, hn0, hsz, hb0, hb1, hcnt⟩ := ckRes_ok hck
  obtain ⟨b, rfl⟩ := Int.eq_ofNat_of_zero_le hb0
  rw [List.length_map, h1.1] at hcnt
  obtain ⟨m2, e2, hck2⟩ : ∃ m2 e2, ckRes m0 (L2.map Od.d) = (m2, e2) := ⟨_, _, rfl⟩
  rw [hck2] at hr
  simp only at hr
  by_cases he : e2 = 0
  rotate_left
  · rw [if_pos he] at hr
    cases hr
    obtain ⟨q1, q2⟩ := neI he
    have HCK := Lib.hid hck
    have HCK2 := Lib.hid hck2
    clear hck hck2 he hn0
    go_enter Try.func43, Try.ntmps43
    go_upto_if 27 with (first
      | (go_at_call 32; (with_reducible refine (Check_any b a1 n1 c1 L1 _ h1 hn1 HCK.out).mono ?_); rintro e w1 ⟨rfl, hx1⟩)
      | fail)
    go_wp2_with (first
      | (go_at_call 32; (with_reducible refine (Check_any m0 a2 n2 c2 L2 _ (h2.ext hx1) hn2 HCK2.out).mono ?_); rintro e w2 ⟨rfl, hx2⟩)
      | fail)
    go_ret2
    exact ⟨none, 0, 0, [], rfl, Ops.nil _, rfl, hx1.trans' hx2⟩
  subst he
  rw [if_neg (by simp)] at hr
  obtain ⟨hok2, hn02, hsz2, -, -, hcnt2⟩ := ckRes_ok hck2
  rw [List.length_map, h2.1] at hcnt2
  rw [hn0] at hok2
  obtain ⟨A, hA⟩ : ∃ A, A = L1.map Od.d := ⟨_, rfl⟩
  obtain ⟨B, hB⟩ : ∃ B, B = L2.map Od.d := ⟨_, rfl⟩
  have hns : ∀ w', Ext w w' → Calls Try.prog 79 #[.slice a1 n1 c1] w' (NewSrc w' n1 (L1.map partV) ((begD A n1).map (Value.int .i64))) := fun w' h => by
    rw [hA]
    exact newSource_any a1 n1 c1 L1 w' (h1.ext h) hcnt (fun k hk => (hok k.d (List.mem_map_of_mem hk)).imp (fun h => h.1) id) hsz
  rw [← hA] at hok hok2 hsz hr
  rw [← hB] at hok2 hsz2 hr
  have HCK := Lib.hid hck
  have HCK2 := Lib.hid hck2
  have HNS := Lib.hid hns
  have HOK := Lib.hid hok
  have HOK2 := Lib.hid hok2
  have HSZ := Lib.hid hsz
  have HSZ2 := Lib.hid hsz2
  have HR := Lib.hid hr
  have HA := Lib.hid hA
  have HB := Lib.hid hB
  have HL1 := Lib.hid h1.1
  have HL2 := Lib.hid h2.1
  have hrow2 := h2.2.1
  clear hck hck2 hns hok hok2 hsz hsz2 hr hA hB hn0 hn02 hb0
  have tcc := Try.ta.cc
  have tll := Try.ta.ll
  have tlc := Try.ta.lc
  go_enter Try.func43, Try.ntmps43
  go_upto_if 27 with (first
    | (go_at_call 32; (with_reducible refine (Check_any b a1 n1 c1 L1 _ h1 hn1 HCK.out).mono ?_); rintro e w1 ⟨rfl, hx1⟩)
    | fail)
  go_upto_region 8 with (first
    | (go_at_call 32; (with_reducible refine (Check_any m0 a2 n2 c2 L2 _ (h2.ext hx1) hn2 HCK2.out).mono ?_); rintro e w2 ⟨rfl, hx2⟩)
    | (go_at_call 79; (with_reducible refine (HNS.out _ (hx1.trans' hx2)).mono ?_); rintro e w3 ⟨pa, ba, pc, bc, rfl, hx3, hoP, hoI⟩)
    | fail)
  have hxS0 := Ext.alloc' w3 (.cells #[.slice pa n1 pc, .slice ba n1 bc] 105)
  have hbS := heap_alloc_new w3 (.cells #[.slice pa n1 pc, .slice ba n1 bc] 105)
  have hrP := (Row.of_own hoP).ext hxS0
  have hrI := (Row.of_own hoI).ext hxS0
  generalize w3.alloc (.cells #[.slice pa n1 pc, .slice ba n1 bc] 105) = wS at hxS0 hbS hrP hrI ⊢
  have hxS := ((hx1.trans' hx2).trans' hx3).trans' hxS0
  clear hxS0 hoP hoI hx3
  go_wp2
  go_loopw [43] (CpRel wS b A B) (fun i _ => n2 - (intOf i).toNat)
  case atStart => exact ⟨0, 0, 0, _, none, [], rfl, Nat.zero_le _, Bld.new wS, Way.nil _, rfl, by simp, Ext.alloc' wS _⟩
  case round =>
    obtain ⟨j, n, c, m, a, L, rfl, hj, hB2, hW2, hD2, hl2, hx5⟩ := hrel
    rename World => w5
    have hBl : B.length = n2 := by rw [HB.out, List.length_map, HL2.out]
    by_cases hjn : j < n2
    rotate_left
    · obtain rfl : j = n2 := by omega
      have hD' := hD2
      rw [List.take_of_length_le (by omega)] at hD'
      have hR := HR.out
      rw [if_neg (by rw [← hD']; omega)] at hR
      cases hR
      have HD' := Lib.hid hD'
      have hbc := fun i => cell_of_row w5 wS.heap.size i _ _ _ hB2.box
      clear hD' hD2 hW2
      go_wp2
      go_ret2
      exact ⟨a, n, c, L, rfl, hB2.ops, HD'.out, hxS.trans' hx5⟩
    obtain ⟨k, hk⟩ : ∃ k, L2[j]? = some k := ⟨_, List.getElem?_eq_getElem (by have := HL2.out; omega)⟩
    have hkB : B[j]? = some k.d := by rw [HB.out, List.getElem?_map, hk]; rfl
    have hkI := (h2.2.2 k (List.mem_of_getElem? hk)).ext (hxS.trans' hx5)
    have hkl := hkI.1.len
    have hkok := HOK2.out k.d (List.mem_of_getElem? hkB)
    have hfA : ∀ x ∈ A, x.fine := fun x hx => (HOK.out x hx).fine
    have hst := sizeD_take_succ hkB
    have hle := sizeD_take_le B (j + 1)
    have hnc := normC_snoc A hkB
    have hoz := oneC_size hfA hkok
    rw [← hD2] at hnc
    have hWn := hW2.addAll (oneC_ok HOK.out hkok)
    rw [hoz, ← hst, ← hnc] at hWn
    have hle2 := seqC_take_le A B (j + 1)
    obtain ⟨Dn, hDn⟩ : ∃ Dn, Dn = normD (seqC A (B.take (j + 1))) := ⟨_, rfl⟩
    rw [← hDn] at hnc hWn hle2
    have hr1 := hrow2.ext (hxS.trans' hx5)
    have hsz2 := HSZ2.out
    obtain ⟨Mj, hMj⟩ : ∃ Mj, Mj = sizeD (B.take j) := ⟨_, rfl⟩
    rw [← hMj] at hst hW2
    have hMk : Mj + k.d.size ≤ 1048576 := by omega
    have HK := Lib.hid hk
    have HKI := Lib.hid hkI
    have HKL := Lib.hid hkl
    have HKOK := Lib.hid hkok
    have HNC := Lib.hid hnc
    have HWN := Lib.hid hWn
    have HDN := Lib.hid hDn
    have HLE := Lib.hid hle2
    have HW2 := Lib.hid hW2
    clear hk hkB hkI hkl hkok hfA hst hle hnc hoz hWn hDn hD2 hle2 hsz2 hMj hW2
    obtain ⟨pt, pq, hpv⟩ : ∃ pt pq, Value.iface pt pq = partV k := by
      unfold partV; split
      · exact ⟨_, _, rfl⟩
      · split <;> exact ⟨_, _, rfl⟩
    have hpc := partOf_any k
    rw [← hpv] at hpc
    have HPV := Lib.hid hpv
    have HPC := Lib.hid hpc
    clear hpc hpv
    go_upto_block 2 with (first
      | ((with_reducible refine atSlot 45 ?_); refine wpList_of_wp rfl (owp_ix (o := ⟨some 45, _, _, _, _, _⟩) _ _ rfl Try.elO rfl hr1 j rfl rfl hjn ?_); intro b3 o3 hc3; have hrg3 := od_range HK.out hc3; clear hc3)
      | ((with_reducible refine atSlot 46 ?_); refine wpList_of_wp rfl (wp_load_mid (op := ⟨some 46, _, _, _, _, _⟩) 39 _ rfl b3 o3 rfl k.cells _ hrg3 Try.underlying39 rfl (by kernel_rfl) ?_); simp only [Od.cells])
      | (go_at_call 74; (with_reducible refine (HPC.out _ HKL.out).mono ?_); rintro e w6 ⟨rfl, hx6⟩; clear hrg3; have E6 := (Ext.alloc' w5 (.cells #[.int .i64 k.f, .int .i64 k.z, .slice k.a k.n k.c] 39)).trans' hx6)
      | fail)
    go_cut [17] from 48 to 68 (fun s17 w' => s17 = .bool (decide (Dn.length ≤ 4096)) ∧ Ext wS w' ∧ (Dn.length ≤ 4096 → ∃ a n c L m, Bld w' wS.heap.size a n c L m ∧ L.map Od.d = Dn))
    case first =>
      have hB6 := hB2.ext E6
      have hxS6 := hx5.trans' E6
      rcases od_cases k HKL.out with ⟨d1, d2, g1, g2⟩ | ⟨d1, d2, g1, g2, g3⟩ | ⟨d1, d2, -, -⟩
      · have hpv := HPV.out
        unfold partV at hpv
        rw [if_pos d1] at hpv
        cases hpv
        have hk3 : 0 ≤ k.f ∧ k.f + k.z ≤ sizeD A := by
          rcases HKOK.out with h | h
          · exact h.2
          · rw [d2] at h; cases h
        obtain ⟨hk3, hk4⟩ := hk3
        have hsA := HSZ.out
        have u1 : IntKind.i64.wrap (k.f + k.z) = k.f + k.z := by rw [IntKind.wrap_i64]; omega
        have hone : oneC A k.d = partF k.f.toNat (k.f + k.z).toNat 0 A := by unfold oneC; rw [if_pos d1]; rfl
        have hks : k.d.size = k.z.toNat := by unfold Dp.size; rw [d1]; rfl
        have hcu : ∀ w', Ext w6 w' → Calls Try.prog 81 #[.agg #[.slice pa n1 pc, .slice ba n1 bc], .int .i64 k.f, .int .i64 (k.f + k.z), .func (.func 80) #[] #[.pointer (some ⟨wS.heap.size, 0, none⟩)]] w' (CutR w' wS.heap.size Dn) := fun w' h => by
          have h3 := cut_any wS a n c L m b Mj k.f.toNat (k.f + k.z).toNat pa ba n1 pc bc L1 w' (hxS6.trans' h) (hB6.ext h) HW2.out hrP (by rw [← HA.out]; exact hrI) HL1.out (fun y hy => (h1.2.2 y hy).ext hxS) (fun y hy => HOK.out y.d (by rw [HA.out]; exact List.mem_map_of_mem hy)) (by omega) (by rw [← HA.out]; omega) (by rw [← HA.out]; exact hsA) (by omega) (by omega) hcnt hl2
          rw [← HA.out, ← hone, ← HNC.out, show ((k.f.toNat : Nat) : Int) = k.f by omega, show (((k.f + k.z).toNat : Nat) : Int) = k.f + k.z by omega] at h3
          exact h3
        have HCU := Lib.hid hcu
        have hbA : ∀ i, (w6.alloc (.cells #[.int .i64 k.f, .int .i64 k.z] 85)).cell? ⟨w3.heap.size, i, none⟩ = #[.slice pa n1 pc, .slice ba n1 bc][i]? := fun i => cell_of_row _ _ i _ _ _ ((Ext.alloc' w6 _).heap' (hxS6.heap' hbS))
        clear hcu hone hks d1 d2 g2
        go_wp2_with (first
          | (go_at_call 81; (with_reducible refine (HCU.out _ (Ext.alloc' w6 _)).mono ?_); rintro e w7 ⟨rfl, hbel7, -, hfin7⟩)
          | fail)
        go_meet
        exact ⟨rfl, (hxS6.trans' (Ext.alloc' w6 _)).trans hbel7, hfin7⟩
      · have hpv := HPV.out
        unfold partV at hpv
        rw [if_neg (by rw [d1]; decide), if_pos d2] at hpv
        cases hpv
        have hone : oneC A k.d = [k.d] := by unfold oneC; rw [d1]; rfl
        have hks : k.d.size = k.n := by unfold Dp.size; rw [d1]; exact HKL.out
        have hkd : k.d = ⟨0, 0, k.l⟩ := by unfold Od.d; rw [g1, g2]
        have htk : ∀ w', Ext w6 w' → Calls Try.prog 80 #[.iface 89 (.agg #[.slice k.a k.n k.c]), .pointer (some ⟨wS.heap.size, 0, none⟩)] w' (TakeR w' wS.heap.size Dn) := fun w' h => by
          have h3 := take_any wS.heap.size a n c L m b Mj (.iface 89 (.agg #[.slice k.a k.n k.c])) k.d w' (hB6.ext h) HW2.out (by omega) (by omega) (.inr ⟨_, _, _, _, rfl, hkd, HKI.out.1.ext (E6.trans' h), by omega, by omega⟩)
          have h4 := HNC.out
          rw [hone] at h4
          rw [show addD (L.map Od.d) k.d = Dn from h4.symm] at h3
          exact h3
        have HTK := Lib.hid htk
        clear htk hone hks hkd d1 d2 g1 g2 g3
        go_wp2_with (first
          | (go_at_call 80; (with_reducible refine (HTK.out _ (Ext.alloc' w6 _)).mono ?_); rintro e w7 ⟨rfl, hbel7, -, hfin7⟩)
          | fail)
        go_meet
        exact ⟨rfl, (hxS6.trans' (Ext.alloc' w6 _)).trans hbel7, fun _ => hfin7⟩
      · exfalso
        rcases HKOK.out with h | h
        · rw [d1] at h; cases h.1
        · rw [d2] at h; cases h
    case rest =>
      obtain ⟨rfl, hx7, hfin⟩ := hcut
      rename World => w7
      by_cases hlen : Dn.length ≤ 4096
      · obtain ⟨a8, n8, c8, L8, m8, hB8, hD8⟩ := hfin hlen
        have hd : decide (Dn.length ≤ 4096) = true := decide_eq_true hlen
        have HD8 := Lib.hid hD8
        have HLEN := Lib.hid hlen
        clear hfin hD8 hlen
        go_wp2
        go_roundw
        case rel => exact ⟨j + 1, n8, c8, m8, a8, L8, by go_num, by omega, hB8, by rw [HD8.out]; exact HWN.out, by rw [HD8.out]; exact HDN.out, by rw [HD8.out]; exact HLEN.out, hx7⟩
        case measure => simp [intOf]; omega
      · have hd : decide (Dn.length ≤ 4096) = false := decide_eq_false hlen
        have hR := HR.out
        rw [if_pos (by have := HLE.out; omega)] at hR
        cases hR
        clear hfin hlen
        go_wp2
        go_ret2
        exact ⟨none, 0, 0, [], rfl, Ops.nil _, rfl, hxS.trans' hx7⟩
end Go.Proofs.Ytcljlglmnagodaa
