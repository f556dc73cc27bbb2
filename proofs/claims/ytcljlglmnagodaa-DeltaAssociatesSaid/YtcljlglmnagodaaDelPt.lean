/-
  The reference's Part.
-/
import Derived.Test.YtcljlglmnagodaaDelCu
import Derived.Test.YtcljlglmnagodaaDelW
namespace Go.Proofs.Ytcljlglmnagodaa
open Go.RowKit

def PartR (w : World) (D : List Dp) (e : Ending) (w' : World) : Prop :=
  ∃ (a : Option Addr) (n c : Nat) (L : List Od), e = .returned (.slice a n c) ∧ Ops w' a n c L ∧ L.map Od.d = D ∧ Ext w w'
def PtRel (w : World) (b s t M : Nat) (D R : List Dp) (out at_ i : Value) (wr : World) : Prop :=
  ∃ (j n c : Nat) (a : Option Addr) (L2 : List Od), i = .int .i64 j ∧ at_ = .int .i64 (sizeD (D.take j) : Nat) ∧ out = .slice a n c ∧ j ≤ D.length ∧ Ops wr a n c L2 ∧
    Way b (M + (min t (sizeD (D.take j)) - s)) (L2.map Od.d) ∧ R = (leftF D j s t).foldl addD (L2.map Od.d) ∧ Ext w wr
theorem leftF_cons {D : List Dp} {j s t : Nat} {o : Dp} (ho : D[j]? = some o) :
    leftF D j s t = (if s - sizeD (D.take j) < min (t - sizeD (D.take j)) o.size then [cutD o (s - sizeD (D.take j)) (min (t - sizeD (D.take j)) o.size)] else []) ++ leftF D (j + 1) s t := by
  have hj : j < D.length := (List.getElem?_eq_some_iff.1 ho).1
  have hd : D.drop j = o :: D.drop (j + 1) := by
    rw [List.drop_eq_getElem_cons hj]; congr 1
    exact Option.some.inj ((List.getElem?_eq_getElem hj).symm.trans ho)
  unfold leftF
  rw [hd, partF, sizeD_take_succ ho]

set_option maxRecDepth 100000 in
set_option maxHeartbeats 8000000 in
theorem refPart_any (a : Option Addr) (n c : Nat) (L' : List Od) (a2 : Option Addr) (N c2 : Nat) (L : List Od) (b M s t : Nat) (w : World) (hO : Ops w a n c L') (hW : Way b M (L'.map Od.d)) (hL : Ops w a2 N c2 L)
    (hok : ∀ k ∈ L, k.d.ok b) (hst : s < t) (ht : t ≤ sizeD (L.map Od.d)) (hS : sizeD (L.map Od.d) ≤ 1048576) (hM : M + (t - s) ≤ 1048576) (hb : b ≤ 1048576) (hN4 : N ≤ 4096) :
    Calls Try.prog 82 #[.slice a n c, .slice a2 N c2, .int .i64 s, .int .i64 t] w (PartR w ((partF s t 0 (L.map Od.d)).foldl addD (L'.map Od.d))) := by
  obtain ⟨D, hD⟩ : ∃ D, D = L.map Od.d := ⟨_, rfl⟩
  obtain ⟨R, hR⟩ : ∃ R, R = (partF s t 0 (L.map Od.d)).foldl addD (L'.map Od.d) := ⟨_, rfl⟩
  rw [← hR]
  rw [← hD] at hR ht hS
  have hDl : D.length = N := by rw [hD, List.length_map, hL.1]
  have hrow := hL.2.1
  have HR := Lib.hid hR
  have HD := Lib.hid hD
  have HDL := Lib.hid hDl
  have HL := Lib.hid hL
  have HOK := Lib.hid hok
  have HT := Lib.hid ht
  have HS := Lib.hid hS
  clear hR hD hDl hL hok ht hS
  go_enter Try.func82, Try.ntmps82
  go_wp2
  go_loopw [0, 9, 10] (PtRel w b s t M D R) (fun _ _ i _ => N - (intOf i).toNat)
  case atStart =>
    refine ⟨0, n, c, a, L', rfl, rfl, rfl, Nat.zero_le _, hO, ?_, ?_, Below.refl _ _⟩
    · rw [show M + (min t (sizeD (D.take 0)) - s) = M by simp [sizeD]]; exact hW
    · unfold leftF; rw [HR.out]; rfl
  case round =>
    obtain ⟨j, n1, c1, a1, L2, rfl, rfl, rfl, hj, hO2, hW2, hR2, hx2⟩ := hrel
    rename World => w2
    by_cases hjn : j < N
    rotate_left
    · have hdone : leftF D j s t = [] := by unfold leftF; rw [List.drop_of_length_le (by have := HDL.out; omega)]; rfl
      rw [hdone] at hR2
      have HDN := Lib.hid hR2
      obtain rfl : j = N := by have := HDL.out; omega
      clear hdone hR2 hW2
      go_wp2
      go_ret
      exact ⟨a1, n1, c1, L2, rfl, hO2, HDN.out.symm, hx2⟩
    obtain ⟨k, hk⟩ : ∃ k, L[j]? = some k := ⟨_, List.getElem?_eq_getElem (by have := HL.out.1; omega)⟩
    have hkD : D[j]? = some k.d := by rw [HD.out, List.getElem?_map, hk]; rfl
    have hkm := List.mem_of_getElem? hk
    have hkI := (HL.out.2.2 k hkm).ext hx2
    have hkl := hkI.1.len
    have hkok := HOK.out k hkm
    have hsz := sizeD_take_succ hkD
    have hls := leftF_cons (s := s) (t := t) hkD
    have hle := sizeD_take_le D (j + 1)
    have hS := HS.out
    have hT := HT.out
    obtain ⟨B, hBe⟩ : ∃ B, B = sizeD (D.take j) := ⟨_, rfl⟩
    obtain ⟨Z, hZe⟩ : ∃ Z, Z = k.d.size := ⟨_, rfl⟩
    rw [← hBe, ← hZe] at hsz hls
    rw [← hBe] at hW2 ⊢
    have hBZ : B + Z ≤ 1048576 := by omega
    have hzn : 0 ≤ k.z ∧ (Z : Int) = k.z + (k.n : Int) := by
      rcases od_cases k hkl with ⟨c1, c2, h1, h2⟩ | ⟨c1, c2, h1, h2, h3⟩ | ⟨c1, c2, -, -⟩
      · refine ⟨by omega, ?_⟩
        have : k.d.size = k.z.toNat := by unfold Dp.size; rw [c1]; rfl
        omega
      · refine ⟨by omega, ?_⟩
        have : k.d.size = k.n := by unfold Dp.size; rw [c1]; exact hkl
        omega
      · exfalso
        rcases hkok with h | h
        · rw [c1] at h; cases h.1
        · rw [c2] at h; cases h
    obtain ⟨hz0, hzn⟩ := hzn
    have hr1 := hrow.ext hx2
    have u1 : IntKind.i64.wrap (k.z + (k.n : Int)) = (Z : Int) := by rw [IntKind.wrap_i64]; omega
    have u2 : IntKind.i64.wrap ((s : Int) - (B : Int)) = (s : Int) - (B : Int) := by rw [IntKind.wrap_i64]; omega
    have u3 : IntKind.i64.wrap ((t : Int) - (B : Int)) = (t : Int) - (B : Int) := by rw [IntKind.wrap_i64]; omega
    have HK := Lib.hid hk
    have HKI := Lib.hid hkI
    have HKL := Lib.hid hkl
    have HKOK := Lib.hid hkok
    have HSZ := Lib.hid hsz
    have HLS := Lib.hid hls
    have HW2 := Lib.hid hW2
    have HR2 := Lib.hid hR2
    have HZE := Lib.hid hZe
    have HZN := Lib.hid hzn
    have HBE := Lib.hid hBe
    clear hk hkD hkm hkI hkl hkok hsz hls hW2 hR2 hZe hzn hle hS hBe hT
    go_upto_region 7 with (first
      | ((with_reducible refine atSlot 23 ?_); refine wpList_of_wp rfl (owp_ix (o := ⟨some 23, _, _, _, _, _⟩) _ _ rfl Try.elO rfl hr1 j rfl rfl hjn ?_); intro b3 o3 hc3; have hrg3 := od_range HK.out hc3; clear hc3)
      | ((with_reducible refine atSlot 24 ?_); refine wpList_of_wp rfl (wp_load_mid (op := ⟨some 24, _, _, _, _, _⟩) 39 _ rfl b3 o3 rfl k.cells _ hrg3 Try.underlying39 rfl (by kernel_rfl) ?_); simp only [Od.cells])
      | fail)
    clear hrg3 u1
    have hx3 := Ext.alloc' w2 (.cells #[.int .i64 k.f, .int .i64 k.z, .slice k.a k.n k.c] 39)
    have hb3 := heap_alloc_new w2 (.cells #[.int .i64 k.f, .int .i64 k.z, .slice k.a k.n k.c] 39)
    generalize w2.alloc (.cells #[.int .i64 k.f, .int .i64 k.z, .slice k.a k.n k.c] 39) = w3 at hx3 hb3 ⊢
    go_cut [13, 14] from 31 to 39 (fun s13 s14 w' => s13 = .int .i64 ((s - B : Nat) : Int) ∧ (∃ y : Int, s14 = .int .i64 y ∧ ((s - B : Nat) < y ↔ s - B < min (t - B) Z) ∧ (s - B < min (t - B) Z → y = ((min (t - B) Z : Nat) : Int))) ∧ w' = w3)
    case first =>
      by_cases h1 : (s : Int) - (B : Int) < 0
      · by_cases h2 : (Z : Int) < (t : Int) - (B : Int)
        · go_wp2
          go_meet
          exact ⟨congrArg (Value.int IntKind.i64) (by omega), ⟨_, rfl, by omega, fun _ => by omega⟩, rfl⟩
        · go_wp2
          go_meet
          exact ⟨congrArg (Value.int IntKind.i64) (by omega), ⟨_, rfl, by omega, fun _ => by omega⟩, rfl⟩
      · by_cases h2 : (Z : Int) < (t : Int) - (B : Int)
        · go_wp2
          go_meet
          exact ⟨congrArg (Value.int IntKind.i64) (by omega), ⟨_, rfl, by omega, fun _ => by omega⟩, rfl⟩
        · go_wp2
          go_meet
          exact ⟨congrArg (Value.int IntKind.i64) (by omega), ⟨_, rfl, by omega, fun _ => by omega⟩, rfl⟩
    case rest =>
      obtain ⟨rfl, ⟨y, rfl, hy1, hy2⟩, rfl⟩ := hcut
      rename World => w3
      have hx23 := hx2.trans' hx3
      have hbk : ∀ i, w3.cell? ⟨w2.heap.size, i, none⟩ = #[.int .i64 k.f, .int .i64 k.z, .slice k.a k.n k.c][i]? := fun i => cell_of_row _ _ i _ _ _ hb3
      have hO3 := hO2.ext hx3
      by_cases hlt : s - B < min (t - B) Z
      rotate_left
      · have hd : decide (((s - B : Nat) : Int) < y) = false := decide_eq_false (fun h => hlt (hy1.1 h))
        have hrl := HLS.out
        have hRR := HR2.out
        have hWW := HW2.out
        rw [if_neg hlt, List.nil_append] at hrl
        rw [hrl] at hRR
        rw [show M + (min t B - s) = M + (min t (B + Z) - s) by omega] at hWW
        have HRR := Lib.hid hRR
        have HWW := Lib.hid hWW
        have u4 : IntKind.i64.wrap ((B : Int) + (Z : Int)) = (B : Int) + (Z : Int) := by rw [IntKind.wrap_i64]; omega
        clear hy1 hy2 hlt hrl hRR hWW u2 u3
        go_wp2
        go_roundw
        case rel => exact ⟨j + 1, n1, c1, a1, L2, by go_num, congrArg (Value.int IntKind.i64) (by rw [HSZ.out]; omega), rfl, by have := HDL.out; omega, hO3, by rw [HSZ.out]; exact HWW.out, HRR.out, hx23⟩
        case measure => simp [intOf]; omega
      have hd : decide (((s - B : Nat) : Int) < y) = true := decide_eq_true (hy1.2 hlt)
      obtain ⟨e, he⟩ : ∃ e, e = min (t - B) Z := ⟨_, rfl⟩
      have hy := hy2 hlt
      have hrl := HLS.out
      rw [if_pos hlt] at hrl
      rw [← he] at hy hlt hrl
      have he1 : e ≤ t - B := by omega
      have he2 : e ≤ Z := by omega
      obtain ⟨pd, hpd⟩ : ∃ pd, pd = cutD k.d (s - B) e := ⟨_, rfl⟩
      rw [← hpd] at hrl
      have hZ := HZE.out
      have hpok : pd.ok b := by rw [hpd]; exact cutD_ok HKOK.out hlt (by omega)
      have hpsz : pd.size = e - (s - B) := by rw [hpd, cutD_size HKOK.out.fine hlt (by omega)]
      have hRR := HR2.out
      rw [hrl, List.singleton_append, List.foldl_cons] at hRR
      have hWW := HW2.out.add hpok
      rw [hpsz, show M + (min t B - s) + (e - (s - B)) = M + (min t (B + Z) - s) by omega] at hWW
      have hWB := HW2.out.bounds hO2
      have hM1 : M + (min t B - s) ≤ 1048576 := by omega
      have hfew : n1 ≤ 1048576 := by have := hWB.few; have := hO2.1; omega
      have hshort : ∀ y ∈ L2, y.n ≤ 1000000000000 := fun y hy => by have := hWB.short y hy; omega
      have hsum : ∀ y ∈ L2, y.f + y.z ≤ 1000000000000 := fun y hy => by have := hWB.sum y hy; omega
      have HRR := Lib.hid hRR
      have HWW := Lib.hid hWW
      have u7 : IntKind.i64.wrap ((B : Int) + (Z : Int)) = (B : Int) + (Z : Int) := by rw [IntKind.wrap_i64]; omega
      subst hy
      clear hy1 hy2 hrl hRR hWW u2 u3 hZ hpsz
      rcases od_cases k HKL.out with ⟨d1, d2, g1, g2⟩ | ⟨d1, d2, g1, g2, g3⟩ | ⟨d1, d2, -, -⟩
      · have hk3 : 0 ≤ k.f ∧ k.f + k.z ≤ b := by
          rcases HKOK.out with h | h
          · exact h.2
          · rw [d2] at h; cases h
        obtain ⟨hk3, hk4⟩ := hk3
        have hpe : pd = ⟨k.f + ((s - B : Nat) : Int), ((e - (s - B) : Nat) : Int), []⟩ := by rw [hpd]; unfold cutD; rw [d1, if_pos rfl]; rfl
        have hZN := HZN.out
        have u4 : IntKind.i64.wrap (k.f + ((s - B : Nat) : Int)) = k.f + ((s - B : Nat) : Int) := by rw [IntKind.wrap_i64]; omega
        have u5 : IntKind.i64.wrap ((e : Int) - ((s - B : Nat) : Int)) = ((e - (s - B) : Nat) : Int) := by rw [IntKind.wrap_i64]; omega
        have hadd : ∀ w', Ext w3 w' → Calls Try.prog 73 #[.slice a1 n1 c1, .agg #[.int .i64 (k.f + ((s - B : Nat) : Int)), .int .i64 ((e - (s - B) : Nat) : Int), .slice none 0 0]] w' (NewOps w' (addD (L2.map Od.d) pd) (1000000000000 + 1000000000000)) := fun w' h => by
          have h1 := refAdd_any a1 n1 c1 L2 ⟨k.f + ((s - B : Nat) : Int), ((e - (s - B) : Nat) : Int), none, 0, 0, []⟩ 1000000000000 w' (hO3.ext h) (by omega) ⟨Bytes.nil _, Nat.zero_le _, by unfold i64B; show -9223372036854775808 ≤ k.f + ((s - B : Nat) : Int) ∧ k.f + ((s - B : Nat) : Int) ≤ _; omega, by unfold i64B; show -9223372036854775808 ≤ ((e - (s - B) : Nat) : Int) ∧ ((e - (s - B) : Nat) : Int) ≤ _; omega⟩ (Nat.zero_le _) hshort (by omega)
            (by rw [show (⟨k.f + ((s - B : Nat) : Int), ((e - (s - B) : Nat) : Int), none, 0, 0, []⟩ : Od).d = pd from hpe.symm]; exact hpok.fine) hWB.fine (by show k.f + ((s - B : Nat) : Int) + ((e - (s - B) : Nat) : Int) ≤ _; omega) hsum
          rw [show (⟨k.f + ((s - B : Nat) : Int), ((e - (s - B) : Nat) : Int), none, 0, 0, []⟩ : Od).d = pd from hpe.symm] at h1
          exact h1
        have hcp := Copies_any k w3 HKL.out
        rw [d1] at hcp
        have HPE := Lib.hid hpe
        have HADD := Lib.hid hadd
        have HCP := Lib.hid hcp
        clear hadd hcp hpe d1 d2 g2 hpd hpok hWB hshort hsum he hZN
        go_wp2_with (first
          | (go_at_call 75; (with_reducible refine HCP.out.mono ?_); rintro e1 w4 ⟨rfl, hx4⟩; have hbk4 := fun i => cell_of_row w4 w2.heap.size i _ _ _ (hx4.heap' hb3))
          | (go_at_call 73; (with_reducible refine (HADD.out _ hx4).mono ?_); rintro e2 w5 ⟨a5, n5, c5, L5, rfl, hL5, hD5, -, hx5⟩; have HD5 := Lib.hid hD5; clear hD5)
          | fail)
        go_roundw
        case rel => exact ⟨j + 1, n5, c5, a5, L5, by go_num, congrArg (Value.int IntKind.i64) (by rw [HSZ.out]; omega), rfl, by have := HDL.out; omega, hL5, by rw [HSZ.out, HD5.out]; exact HWW.out, by rw [HD5.out]; exact HRR.out, (hx23.trans' hx4).trans' hx5⟩
        case measure => simp [intOf]; omega
      · have hpe : pd = ⟨0, 0, (k.l.drop (s - B)).take (e - (s - B))⟩ := by rw [hpd]; unfold cutD; rw [d1, if_neg (by decide)]; rfl
        have hZN := HZN.out
        have hsl : s - B + (e - (s - B)) ≤ k.n := by omega
        have hadd : ∀ (a7 : Option Addr) (c7 : Nat) w', Ext w3 w' → Bytes w' a7 (e - (s - B)) c7 ((k.l.drop (s - B)).take (e - (s - B))) → Calls Try.prog 73 #[.slice a1 n1 c1, .agg #[.int .i64 0, .int .i64 0, .slice a7 (e - (s - B)) c7]] w' (NewOps w' (addD (L2.map Od.d) pd) (1000000000000 + 1000000000000)) := fun a7 c7 w' h hby => by
          have h1 := refAdd_any a1 n1 c1 L2 ⟨0, 0, a7, e - (s - B), c7, (k.l.drop (s - B)).take (e - (s - B))⟩ 1000000000000 w' (hO3.ext h) (by omega) ⟨hby, by show e - (s - B) ≤ _; omega, by unfold i64B; show (-9223372036854775808 : Int) ≤ 0 ∧ (0 : Int) ≤ 9223372036854775807; decide, by unfold i64B; show (-9223372036854775808 : Int) ≤ 0 ∧ (0 : Int) ≤ 9223372036854775807; decide⟩ (by show e - (s - B) ≤ _; omega) hshort (by omega)
            (by rw [show (⟨0, 0, a7, e - (s - B), c7, (k.l.drop (s - B)).take (e - (s - B))⟩ : Od).d = pd from hpe.symm]; exact hpok.fine) hWB.fine (by show (0 : Int) + 0 ≤ 1000000000000; decide) hsum
          rw [show (⟨0, 0, a7, e - (s - B), c7, (k.l.drop (s - B)).take (e - (s - B))⟩ : Od).d = pd from hpe.symm] at h1
          exact h1
        have u6 : (e : Int) = ((s - B : Nat) : Int) + ((e - (s - B) : Nat) : Int) := by omega
        have HU6 := Lib.hid u6
        clear u6
        have hcp := Copies_any k w3 HKL.out
        rw [d1] at hcp
        have HPE := Lib.hid hpe
        have HADD := Lib.hid hadd
        have HCP := Lib.hid hcp
        clear hadd hcp hpe d1 d2 g1 g2 g3 hpd hpok hWB hshort hsum he hZN
        go_wp2_with (first
          | (go_at_call 75; (with_reducible refine HCP.out.mono ?_); rintro e1 w4 ⟨rfl, hx4⟩; have hbk4 := fun i => cell_of_row w4 w2.heap.size i _ _ _ (hx4.heap' hb3))
          | ((with_reducible refine atSlot 60 ?_); refine wpList_of_wp rfl (owp_sl_lh (o := ⟨some 60, _, _, _, _, _⟩) _ _ _ rfl Try.elB rfl ((HKI.out.1.ext (hx3.trans' hx4)).row) (s - B) (e - (s - B)) rfl rfl rfl HU6.out hsl ?_); intro a7 hr7; have hby := Bytes.sub hr7; clear hr7)
          | (go_at_call 73; (with_reducible refine (HADD.out a7 _ _ hx4 hby).mono ?_); rintro e2 w5 ⟨a5, n5, c5, L5, rfl, hL5, hD5, -, hx5⟩; have HD5 := Lib.hid hD5; clear hD5)
          | fail)
        go_roundw
        case rel => exact ⟨j + 1, n5, c5, a5, L5, by go_num, congrArg (Value.int IntKind.i64) (by rw [HSZ.out]; omega), rfl, by have := HDL.out; omega, hL5, by rw [HSZ.out, HD5.out]; exact HWW.out, by rw [HD5.out]; exact HRR.out, (hx23.trans' hx4).trans' hx5⟩
        case measure => simp [intOf]; omega
      · exfalso
        rcases HKOK.out with h | h
        · rw [d1] at h; cases h.1
        · rw [d2] at h; cases h
end Go.Proofs.Ytcljlglmnagodaa
