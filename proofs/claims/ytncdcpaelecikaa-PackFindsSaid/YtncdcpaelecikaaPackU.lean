/-
  The law PackCut.
-/
import Derived.Test.YtncdcpaelecikaaPackT
import Derived.Test.YtncdcpaelecikaaMathQ
namespace Go.Proofs.Ytncdcpaelecikaa
open Go.RowKit

def CutRel (w : World) (M : List Ck) (n0 : Nat) (i e : Value) (wr : World) : Prop := ∃ j : Nat, i = .int .i64 j ∧ e = .int .i64 (offs M j) ∧ j ≤ M.length ∧ offs M j ≤ n0 ∧ Ext w wr
theorem isPack_take {L : List Ck} {n : Nat} (h : 4 ≤ n) : isPack ((packB L).take n) = true := by
  unfold isPack
  rw [List.take_take, Nat.min_eq_left h]
  simp [packB, bodyB, magicB]

theorem frame_le {k : Ck} (hr : rightB k.s k.z k.l = true) (hs : k.s ≤ 18446744073709551615) : (frameB k.s k.z.toNat k.l).length ≤ 8213 := by
  simp only [rightB, Bool.and_eq_true, decide_eq_true_eq] at hr
  have := frameB_len k.s k.z.toNat k.l (by omega) (by omega)
  omega

set_option maxRecDepth 100000 in
set_option maxHeartbeats 4000000 in
theorem PackCut_walk (a1 : Option Addr) (n1 c1 : Nat) (L1 : List Int) (w : World)
    (hl : Row w a1 n1 c1 1 (L1.map (Value.int .i64))) (hli : ∀ x ∈ L1, -9223372036854775808 ≤ x ∧ x ≤ 9223372036854775807) (ha1 : ∀ p, a1 = some p → 0 < n1 → p.block < w.heap.size) :
    Calls Try.prog 5 #[.slice a1 n1 c1] w (LawPost w) := by
  have ht : Tape (w.alloc (.cells #[.slice a1 n1 c1, .int .i64 0] 26)) w.heap.size 0 :=
    ⟨a1, n1, c1, L1, heap_alloc_new w _, hl.ext (Ext.alloc' _ _), ha1, hli⟩
  have hx1 : Ext w (w.alloc (.cells #[.slice a1 n1 c1, .int .i64 0] 26)) := Ext.alloc' _ _
  have HT := Lib.hid ht
  clear ht
  have t1 : True := trivial
  go_enter Try.func5, Try.ntmps5
  go_wp2_with (first
    | (go_at_call 19; (with_reducible refine (made_any w.heap.size 0 _ HT.out (by omega)).mono ?_); rintro e w2 ⟨a2, m, c2, k2, M, rfl, hO2, hm, hA, ht2, hk2, hg2⟩; have hE := asc_enc hA (by have := hO2.len; omega); have hx2 := hx1.rd hg2 (Nat.le_refl _); have hEn := (Encode_any a2 m c2 M _ hO2.chunks (by omega) (hO2.frames_le (by omega))); refine Stop.of ?_))
  have hs : ∀ k ∈ M, k.s ≤ 18446744073709551615 := fun k hk => by have := (hO2.2 k hk).2.2.1; omega
  have hmL := hO2.len
  have hOw := hO2.base (Nat.le_of_lt (alloc_gt w _))
  obtain ⟨P, hP⟩ : ∃ P, P = packB M := ⟨_, rfl⟩
  have hE1 : encRes M = (P, 0) := by rw [hP]; exact hE.1
  have hP4 : 4 ≤ P.length := by rw [hP]; exact hE.2.1
  have hP5 : P.length ≤ 1048576 := by rw [hP]; exact hE.2.2
  have HP := Lib.hid hP
  have HE1 := Lib.hid hE1
  have HEn := Lib.hid hEn
  have HA := Lib.hid hA
  have HSS := Lib.hid hs
  have HML := Lib.hid hmL
  clear hP hE hE1 hEn hA hs hmL hOw
  refine Stop.out ?_
  go_wp2_with (first
    | (go_at_call 12; (with_reducible refine HEn.out.mono ?_); rintro e w3 hp3; obtain ⟨a3, n3, c3, rfl, ho3, hx3⟩ := hp3.is HE1.out; have hl3 := own_len ho3; have hd4 : decide (n3 < 4) = false := (by simp; omega); have hn4 : 4 ≤ n3 := (by omega))
    | (go_at_call 14; (with_reducible refine (known_any _).mono ?_); rintro e w4 ⟨rfl, hx4⟩; have ht4 := (ht2.ext hx3).ext hx4; have hb4 := (Bytes.of_own ho3).ext hx4)
    | (go_at_call 20; (with_reducible refine (Next_any w.heap.size k2 ((n3 : Int) - 3) _ ht4 (by omega) (by omega)).mono ?_); rintro e w5 ⟨u, rfl, hu, ht5, hg5⟩; have hun : 4 + u ≤ n3 := (by unfold Below1 at hu; omega); refine Stop.of ?_))
  have hO5 := ((hO2.ext hx3).ext hx4).kept hg5 (alloc_gt w _)
  have ho5 := own_kept (own_ext ho3 hx4) hg5 ht2.lt
  have hb5 := Bytes.of_own ho5
  have hx5 := ((hx2.trans' hx3).trans' hx4).rd hg5 (Nat.le_refl _)
  obtain ⟨n0, hn0⟩ : ∃ n0, n0 = 4 + u := ⟨_, rfl⟩
  have hn04 : 4 ≤ n0 := by omega
  have hn0n : n0 ≤ n3 := by omega
  have hn0i : (4 : Int) + (u : Int) = (n0 : Int) := by omega
  obtain ⟨S, good, hS⟩ : ∃ S good, pkSalv (P.take n0) = (S, good) := ⟨_, _, rfl⟩
  have hSs : salv (P.take n0) = (S, good) := by rw [← hS]; unfold pkSalv; rw [if_pos (by rw [HP.out]; exact isPack_take hn04)]
  have HS := Lib.hid hS
  have HSs := Lib.hid hSs
  clear hS hSs hu ht4 hb4 hO2 ho3 hg5 hx2 hx3 hx4 ht2
  clear hn0 hun
  refine Stop.out ?_
  go_wp2_with (first
    | ((with_reducible refine atSlot 42 ?_); refine wpList_of_wp rfl (owp_sl_hi (o := ⟨some 42, _, _, _, _, _⟩) _ _ rfl Try.elB rfl hb5.row n0 rfl rfl hn0n ?_); intro a6 hr6; have hb6 := Bytes.take hr6)
    | (go_at_call 16; (with_reducible refine (Salvage_any a6 n0 _ (P.take n0) _ hb6 (by omega)).mono ?_); rintro e w6 hp6; obtain ⟨cn, cc, ca, La, rfl, hO6, hd6, hx6, hcn6⟩ := hp6.is HS.out; refine Stop.of ?_))
  have hO7 := hO5.ext hx6
  have hx7 := hx5.trans' hx6
  have hr7 := Row.of_own hO7.1
  have hC7 := hO7.chunks
  have HD6 := Lib.hid hd6
  have hcn : cn ≤ 1048576 := by rw [List.length_take] at hcn6; omega
  clear hd6 hb6 hb5 ho5 hO5 hx5 hcn6 hn0i
  refine Stop.out ?_
  go_wp2
  go_loopw [10, 11] (CutRel w6 M n0) (fun i _ _ => m - (intOf i).toNat)
  case atStart => exact ⟨0, rfl, by simp [offs, frames], by omega, by simp [offs, frames]; omega, Below.refl _ _⟩
  case round =>
    obtain ⟨j, rfl, rfl, hj, hoj, hx⟩ := hrel
    rename World => w8
    have hjm : j ≤ m := by have := HML.out; omega
    have hr8 := hr7.ext hx
    have hC8 := hC7.ext hx
    have hO8 := hO6.chunks.ext hx
    by_cases hjn : j < m
    focus
      obtain ⟨y, hy⟩ : ∃ y, M[j]? = some y := ⟨_, List.getElem?_eq_getElem (by have := HML.out; omega)⟩
      have hyR := Lib.hid (HA.out.1 y (List.mem_of_getElem? hy))
      have hyI := hC8.2.2 y (List.mem_of_getElem? hy)
      have hos := offs_succ hy
      have hfl := frame_le hyR.out (HSS.out y (List.mem_of_getElem? hy))
      have HY := Lib.hid hy
      clear hy
      have t2 : True := trivial
      go_wp2_with (first
        | ((with_reducible refine atSlot 54 ?_); refine wpList_of_wp rfl (owp_ix (o := ⟨some 54, _, _, _, _, _⟩) _ _ rfl Try.elC rfl hr8 j rfl rfl hjn ?_); intro b9 o9 hc9; have hrg9 := range_get HY.out hc9; clear hc9)
        | ((with_reducible refine atSlot 55 ?_); refine wpList_of_wp rfl (wp_load_mid (op := ⟨some 55, _, _, _, _, _⟩) 46 _ rfl b9 o9 rfl y.cells _ hrg9 Try.underlying46 rfl (by kernel_rfl) ?_); simp only [Ck.cells])
        | (go_at_call 21; have _t := t2; go_loud (refine (Frame_at y.s y.z y.a y.n y.c y.l _ hyI.1 hyR.out hyI.2.2).mono ?_); rintro e w9 ⟨a9, n9, c9, rfl, ho9, hx9⟩; clear t2; have hl9 := own_len ho9; have hn9 : n9 ≤ 8213 := (by omega); refine Stop.of ?_))
      have HOS := Lib.hid hos
      have hr9 := hr8.ext hx9
      have hyI9 := hyI.1.ext hx9
      clear hos t1
      by_cases hle : offs M (j + 1) ≤ n0
      · have hin : (offs M j : Int) + n9 ≤ n0 := by have := HOS.out; omega
        have hd : decide ((offs M j : Int) + n9 ≤ n0) = true := by simpa using hin
        refine Stop.out ?_
        go_wp2_with (first
          | ((with_reducible refine atSlot 65 ?_); refine wpList_of_wp rfl (owp_ix (o := ⟨some 65, _, _, _, _, _⟩) _ _ rfl Try.elC rfl hr9 j rfl rfl hjn ?_); intro b10 o10 hc10; have hrg10 := range_get HY.out hc10; clear hc10)
          | ((with_reducible refine atSlot 66 ?_); refine wpList_of_wp rfl (wp_load_mid (op := ⟨some 66, _, _, _, _, _⟩) 46 _ rfl b10 o10 rfl y.cells _ hrg10 Try.underlying46 rfl (by kernel_rfl) ?_); simp only [Ck.cells])
          | (go_at_call 21; refine (Frame_at y.s y.z y.a y.n y.c y.l _ hyI9 hyR.out hyI.2.2).mono ?_; rintro e w10 ⟨a10, n10, c10, rfl, ho10, hx10⟩; have hl10 := own_len ho10; have hn10 : n10 ≤ 8213 := (by omega)))
        go_roundw
        case rel => exact ⟨j + 1, by go_num, by rw [show ((offs M (j + 1) : Nat) : Int) = (offs M j : Int) + n10 by have := HOS.out; omega], by have := HML.out; omega, hle, (hx.trans' hx9).trans' hx10⟩
        case measure => simp [intOf]; omega
      have hin : ¬ ((offs M j : Int) + n9 ≤ n0) := by have := HOS.out; omega
      have hd : decide ((offs M j : Int) + n9 ≤ n0) = false := by simpa using hin
      have HC := Lib.hid (show j = M.length ∨ n0 < offs M (j + 1) by omega)
      refine Stop.out ?_
    rotate_left
    focus
      have hd : decide (j < m) = false := by simpa using hjn
      have HC := Lib.hid (show j = M.length ∨ n0 < offs M (j + 1) by have := HML.out; omega)
      have hx9 : Ext w8 w8 := Below.refl _ _
      have hr9 := hr8
    all_goals
      have hsc := salv_cut HA.out HSS.out hoj hj HC.out
      rw [← HP.out, HSs.out, Prod.mk.injEq] at hsc
      obtain ⟨rfl, rfl⟩ := hsc
      have hO9 := hO8.ext hx9
      have hC9 := hC8.ext hx9
      have hlt : (M.take j).length = j := by rw [List.length_take]; omega
      have HLT := Lib.hid hlt
      clear hlt
      go_wp2_with (first
        | ((with_reducible refine atSlot 79 ?_); refine wpList_of_wp rfl (owp_sl_hi (o := ⟨some 79, _, _, _, _, _⟩) _ _ rfl Try.elC rfl hr9 j rfl rfl hjm ?_); intro a11 hr11; rw [cells_take] at hr11)
        | (go_at_call 18; refine (Same_any ca cn cc a11 j _ La (M.take j) _ hO9 ⟨HLT.out, hr11, fun k hk => hC9.2.2 k (List.mem_of_mem_take hk)⟩ HD6.out (by omega)).mono ?_; rintro e w12 ⟨rfl, hx12⟩))
      go_ret
      exact ⟨rfl, ((hx7.trans' hx).trans' hx9).trans' hx12⟩
end Go.Proofs.Ytncdcpaelecikaa
