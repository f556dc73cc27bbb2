/-
  The law ChainDeep.
-/
import Derived.Test.YtcljlglmnagodaaChaG
namespace Go.Proofs.Ytcljlglmnagodaa
open Go.RowKit

def DpRel (w : World) (N : Nat) (x : UInt8) (l b i : Value) (wr : World) : Prop :=
  ∃ (j c bc : Nat) (a ba : Option Addr) (LL : List Lk) (S : List (List UInt8 × Nat)), i = .int .i64 j ∧ l = .slice a j c ∧ b = .slice ba (16 + j) bc ∧ j ≤ N ∧ Links wr a j c LL ∧ Deep x (LL.map Lk.d) S j ∧ Bytes wr ba (16 + j) bc (cont x j) ∧ Ext w wr

set_option maxRecDepth 100000 in
set_option maxHeartbeats 4000000 in
theorem ChainDeep_walk (n : Int) (x : UInt8) (w : World) (_h0 : -9223372036854775808 ≤ n) (_h1 : n ≤ 9223372036854775807) :
    Calls Try.prog 16 #[.int .i64 n, .int .u8 (x.toNat : Int)] w (LawPost w) := by
  have H16 := Lib.hid (show (a16 : List UInt8).length ≤ maxLen by decide)
  go_enter Try.func16, Try.ntmps16
  go_wp2_with (first
    | (go_at_call 30; (with_reducible refine (makeFold_any n 24 _ (by decide)).mono ?_); rintro e w1 ⟨u, rfl, hu, rfl⟩; have hu' : u ≤ 23 := (by unfold Below1 at hu; omega); clear hu)
    | ((with_reducible refine atSlot 13 ?_); refine wpList_of_wp rfl (owp_cc (o := ⟨some 13, _, _, _, _, _⟩) _ rfl rfl Try.underlying26 Try.underlying5 (heap_alloc_new w _) ?_); intro w1 hh1 hg1; have E1 : Ext w w1 := (Ext.alloc' w (.cells #[.int .u8 97, .int .u8 98, .int .u8 99, .int .u8 100, .int .u8 101, .int .u8 102, .int .u8 103, .int .u8 104, .int .u8 105, .int .u8 106, .int .u8 107, .int .u8 108, .int .u8 109, .int .u8 110, .int .u8 111, .int .u8 112] 5)).grown hg1 (by simp) (fun k hk => by cases hk; exact Nat.le_refl _); have hb1 : Bytes w1 (some ⟨w.heap.size, 0, none⟩) 16 16 a16 := Bytes.of_heap (l := a16) hh1 H16.out; clear hh1 hg1)
    | fail)
  obtain ⟨N, hN⟩ : ∃ N, N = 1 + u := ⟨_, rfl⟩
  have hN2 : (1 : Int) + (u : Int) = N := by omega
  have hN24 : N ≤ 24 := by omega
  rw [hN2]
  clear hN hN2 hu'
  go_loopw [5, 6, 7] (DpRel w N x) (fun _ _ i _ => N - (intOf i).toNat)
  case atStart => exact ⟨0, 0, 16, none, _, [], [], rfl, rfl, rfl, Nat.zero_le _, ⟨rfl, Row.empty _ 2, (fun k hk => by cases hk)⟩, Deep.nil x, by unfold cont; rw [List.replicate_zero, List.append_nil]; exact hb1, E1⟩
  case round =>
    obtain ⟨j, c, bc, a, ba, LL, S, rfl, rfl, rfl, hj, hLL, hD, hb, hx⟩ := hrel
    rename World => w3
    by_cases hjN : j < N
    rotate_left
    · obtain rfl : j = N := by omega
      go_wp2_with (first
        | (go_at_call 55; (with_reducible refine (known27_any _).mono ?_); rintro e w6 ⟨rfl, hx6⟩)
        | fail)
      go_ret
      exact ⟨rfl, Ext.trans' hx hx6⟩
    obtain ⟨S', hD'⟩ := hD.step (by omega)
    have hLd : (LL.map Lk.d).length = j := by rw [List.length_map]; exact hLL.1
    have hap := chAppend_any a j c LL ba (16 + j) bc (cont x j) w3 hLL hb (by omega) (by omega) (apC_ok hD.1 (by omega) (by rw [cont_len]; omega))
    have hap' : Calls Try.prog 53 #[.slice a j c, .slice ba (16 + j) bc] w3 (fun e w' => ∃ a2 c2 LL2, e = .returned (.tuple #[.slice a2 (j + 1) c2, .int .i64 0]) ∧ Links w' a2 (j + 1) c2 LL2 ∧ Deep x (LL2.map Lk.d) S' (j + 1) ∧ Ext w3 w') := by
      refine hap.mono ?_
      rintro e w4 ⟨a2, n2, c2, LL2, rfl, hO2, hD2, hx4⟩
      have hn2 : n2 = j + 1 := by rw [← hO2.len, ← List.length_map (f := Lk.d), hD2, List.length_append, hLd]; rfl
      subst hn2
      exact ⟨a2, c2, LL2, rfl, hO2.links, by rw [hD2]; exact hD', hx4⟩
    have HAP := Lib.hid hap'
    have HD' := Lib.hid hD'
    have hdp : ∀ (w' : World) (a2 : Option Addr) (c2 : Nat) (LL2 : List Lk), Links w' a2 (j + 1) c2 LL2 → Deep x (LL2.map Lk.d) S' (j + 1) → Calls Try.prog 57 #[.slice a2 (j + 1) c2, .int .i64 j] w' (NewNone (.int .i64 ((j : Int) % 9)) w') := fun w' a2 c2 LL2 h1 h2 => by
      have h3 := chDepth_any a2 (j + 1) c2 LL2 j w' h1 (by omega) ⟨by omega, by omega⟩ (h2.1.st (by rw [List.length_map, h1.1]; omega))
      have h4 : depV S' 0 (j + 1) j = (j : Int) % 9 := by
        unfold depV
        rw [if_neg (by omega), Int.toNat_natCast, h2.depth (Nat.lt_succ_self _)]
        omega
      rwa [h4] at h3
    have HDP := Lib.hid hdp
    have hjo : ∀ w5, Ext w3 w5 → Calls Try.prog 58 #[.slice (some ⟨w5.heap.size + 1, 0, none⟩) 2 2] ((w5.alloc (.cells #[.int .u8 (x.toNat : Int)] 5)).alloc (.cells #[.slice ba (16 + j) bc, .slice (some ⟨w5.heap.size, 0, none⟩) 1 1] 26))
        (NewBytes ((w5.alloc (.cells #[.int .u8 (x.toNat : Int)] 5)).alloc (.cells #[.slice ba (16 + j) bc, .slice (some ⟨w5.heap.size, 0, none⟩) 1 1] 26)) (cont x (j + 1))) := fun w5 h5 => by
      have hs := World.size_alloc w5 (.cells #[.int .u8 (x.toNat : Int)] 5)
      have hE := Ext.alloc' w5 (.cells #[.int .u8 (x.toNat : Int)] 5)
      have hrow : Bytes (w5.alloc (.cells #[.int .u8 (x.toNat : Int)] 5)) (some ⟨w5.heap.size, 0, none⟩) 1 1 [x] := Bytes.mk' (Row.one w5 (Proofs.Ytcljlglmnagodaa.u8 x) 5)
      rw [← hs]
      generalize w5.alloc (.cells #[.int .u8 (x.toNat : Int)] 5) = w6 at hE hrow ⊢
      have hF := Ext.alloc' w6 (.cells #[.slice ba (16 + j) bc, .slice (some ⟨w5.heap.size, 0, none⟩) 1 1] 26)
      have hB : Bts (w6.alloc (.cells #[.slice ba (16 + j) bc, .slice (some ⟨w5.heap.size, 0, none⟩) 1 1] 26)) (some ⟨w6.heap.size, 0, none⟩) 2 2 [⟨ba, 16 + j, bc, cont x j⟩, ⟨some ⟨w5.heap.size, 0, none⟩, 1, 1, [x]⟩] := by
        refine ⟨rfl, Row.new w6 #[.slice ba (16 + j) bc, .slice (some ⟨w5.heap.size, 0, none⟩) 1 1] _ 2 1 rfl (by decide), fun k hk => ?_⟩
        simp only [List.mem_cons, List.not_mem_nil, or_false] at hk
        rcases hk with rfl | rfl
        · exact ⟨hb.ext ((h5.trans' hE).trans' hF), by show 16 + j ≤ _; omega⟩
        · exact ⟨hrow.ext hF, (by decide : 1 ≤ 140737488355328)⟩
      have hfl : ([⟨ba, 16 + j, bc, cont x j⟩, ⟨some ⟨w5.heap.size, 0, none⟩, 1, 1, [x]⟩] : List Bt).flatMap Bt.l = cont x (j + 1) := by
        rw [cont_succ]; simp
      have h := Joined_any _ 2 2 _ _ hB (by decide) (by rw [hfl, cont_len]; omega)
      rwa [hfl] at h
    have HJO := Lib.hid hjo
    obtain ⟨p1, p2⟩ := eqI (x := (j : Int) % 9) (y := (j : Int) % 9) rfl
    obtain ⟨p3, p4⟩ := eqI (x := (j : Int) + 1) (y := (j : Int) + 1) rfl
    clear hap hap' hD hD' hLL hdp hLd hjo
    go_wp2_with (first
      | (go_at_call 53; (with_reducible refine HAP.out.mono ?_); rintro e w4 ⟨a2, c2, LL2, rfl, hL4, hD4, hx4⟩; have HL4 := Lib.hid hL4; have HD4 := Lib.hid hD4; clear hL4 hD4)
      | (go_at_call 57; (with_reducible refine (HDP.out _ a2 c2 LL2 HL4.out HD4.out).mono ?_); rintro e w5 ⟨rfl, hx5⟩; have hx45 := hx4.trans' hx5)
      | (go_at_call 58; (with_reducible refine (HJO.out w5 hx45).mono ?_); rintro e w6 ⟨a6, n6, c6, rfl, ho6, hx6⟩)
      | fail)
    have hl6 := own_len ho6
    rw [cont_len] at hl6
    have hn6 : n6 = 16 + (j + 1) := by omega
    subst hn6
    have hE6 := ((Ext.alloc' w5 (.cells #[.int .u8 (x.toNat : Int)] 5)).al (.cells #[.slice ba (16 + j) bc, .slice (some ⟨w5.heap.size, 0, none⟩) 1 1] 26)).trans' hx6
    go_roundw
    case rel =>
      exact ⟨j + 1, c2, c6, a2, a6, LL2, S', by go_num, rfl, rfl, hjN, HL4.out.ext (hx5.trans' hE6), HD4.out, Bytes.of_own ho6, (hx.trans' hx45).trans' hE6⟩
    case measure => simp [intOf]; omega

theorem ChainDeep_law (n : Int) (m : Nat) (w : World) (h0 : -9223372036854775808 ≤ n) (h1 : n ≤ 9223372036854775807) (h2 : (m : Int) ≤ 255) :
    Calls Try.prog 16 #[.int .i64 n, .int .u8 (m : Int)] w (LawPost w) := by
  have h := ChainDeep_walk n (UInt8.ofNat m) w h0 h1
  rwa [show ((UInt8.ofNat m).toNat : Int) = (m : Int) by rw [UInt8.toNat_ofNat']; omega] at h
end Go.Proofs.Ytcljlglmnagodaa
