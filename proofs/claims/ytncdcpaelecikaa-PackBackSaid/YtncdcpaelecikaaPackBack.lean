/-
  The law PackBack.
-/
import Derived.Test.YtncdcpaelecikaaPackU
import Derived.Test.YtncdcpaelecikaaFind
namespace Go.Proofs.Ytncdcpaelecikaa
open Go.RowKit

theorem find_pack {M : List Ck} {P : List UInt8} {k : Ck} (hA : Asc M) (hd : decRes P = (M.map Ck.d, 0)) (hk : k ∈ M) : findRes P k.s k.z = (k.l, 0) := by
  unfold findRes
  rw [hd, if_neg (by simp)]
  exact findB_yes hA.2 hk rfl rfl

set_option maxRecDepth 100000 in
set_option maxHeartbeats 4000000 in
theorem PackBack_walk (a1 : Option Addr) (n1 c1 : Nat) (L1 : List Int) (w : World)
    (hl : Row w a1 n1 c1 1 (L1.map (Value.int .i64))) (hli : ∀ x ∈ L1, -9223372036854775808 ≤ x ∧ x ≤ 9223372036854775807) (ha1 : ∀ p, a1 = some p → 0 < n1 → p.block < w.heap.size) :
    Calls Try.prog 9 #[.slice a1 n1 c1] w (LawPost w) := by
  have ht : Tape (w.alloc (.cells #[.slice a1 n1 c1, .int .i64 0] 26)) w.heap.size 0 :=
    ⟨a1, n1, c1, L1, heap_alloc_new w _, hl.ext (Ext.alloc' _ _), ha1, hli⟩
  have hx1 : Ext w (w.alloc (.cells #[.slice a1 n1 c1, .int .i64 0] 26)) := Ext.alloc' _ _
  have HT := Lib.hid ht
  clear ht
  go_enter Try.func9, Try.ntmps9
  go_wp2_with (first
    | (go_at_call 19; (with_reducible refine (made_any w.heap.size 0 _ HT.out (by omega)).mono ?_); rintro e w2 ⟨a2, m, c2, k2, M, rfl, hO2, hm, hA, ht2, hk2, hg2⟩; have hE := asc_enc hA (by have := hO2.len; omega); have hx2 := hx1.rd hg2 (Nat.le_refl _); have hEn := (Encode_any a2 m c2 M _ hO2.chunks (by omega) (hO2.frames_le (by omega))); refine Stop.of ?_))
  have hs : ∀ k ∈ M, k.s ≤ 18446744073709551615 := fun k hk => by have := (hO2.2 k hk).2.2.1; omega
  have hmL := hO2.len
  obtain ⟨P, hP⟩ : ∃ P, P = packB M := ⟨_, rfl⟩
  have hE1 : encRes M = (P, 0) := by rw [hP]; exact hE.1
  have hP5 : P.length ≤ 1048576 := by rw [hP]; exact hE.2.2
  obtain ⟨hd1, hd2, hd3⟩ := dec_pack hA hs hE.2.2 (by omega)
  rw [← hP] at hd1 hd2 hd3
  have hd4 : pkSalv P = (M.map Ck.d, offs M M.length) := by unfold pkSalv; rw [if_pos hd2, hd1]
  have HD3 := Lib.hid hd3
  have HD4 := Lib.hid hd4
  have HE1 := Lib.hid hE1
  have HEn := Lib.hid hEn
  have HA := Lib.hid hA
  have HML := Lib.hid hmL
  clear hP hE hE1 hEn hA hs hmL hd1 hd2 hd3 hd4 ht2 hg2 HT
  have t1 : True := trivial
  refine Stop.out ?_
  go_wp2_with (first
    | (go_at_call 12; (with_reducible refine HEn.out.mono ?_); rintro e w3 hp3; obtain ⟨a3, n3, c3, rfl, ho3, hx3⟩ := hp3.is HE1.out; have hl3 := own_len ho3; have hb3 := Bytes.of_own ho3)
    | (go_at_call 22; (with_reducible refine (Decode_any a3 n3 c3 P _ hb3 (by omega)).mono ?_); rintro e w4 hp4; obtain ⟨n4, c4, a4, L4, rfl, hO4, hL4, hx4, hn4⟩ := hp4.is HD3.out; have HL4 := Lib.hid hL4; clear hL4; have hb4 := hb3.ext hx4)
    | (go_at_call 16; (with_reducible refine (Salvage_any a3 n3 c3 P _ hb4 (by omega)).mono ?_); rintro e w5 hp5; obtain ⟨n5, c5, a5, L5, rfl, hO5, hL5, hx5, hn5⟩ := hp5.is HD4.out; have HL5 := Lib.hid hL5; clear hL5)
    | (go_at_call 14; (with_reducible refine (known_any _).mono ?_); rintro e w6 ⟨rfl, hx6⟩; have hM6 := (((hO2.ext hx3).ext hx4).ext hx5).ext hx6; have hO46 := ((hO4.ext hx5).ext hx6).chunks; have hO56 := (hO5.ext hx6).chunks)
    | (go_at_call 18; have _t := t1; (with_reducible refine (Same_any _ _ _ _ _ _ L4 M _ hO46 hM6.chunks HL4.out (by omega)).mono ?_); rintro e w7 ⟨rfl, hx7⟩; clear t1)
    | (go_at_call 18; (with_reducible refine (Same_any _ _ _ _ _ _ L5 M _ (hO56.ext hx7) (hM6.ext hx7).chunks HL5.out (by omega)).mono ?_); rintro e w8 ⟨rfl, hx8⟩))
  have hM8 := (hM6.ext hx7).ext hx8
  have hb8 := (((hb4.ext hx5).ext hx6).ext hx7).ext hx8
  have hx08 := (((((hx2.trans' hx3).trans' hx4).trans' hx5).trans' hx6).trans' hx7).trans' hx8
  have hr8 := Row.of_own hM8.1
  clear hO2 hO4 hO5 hO46 hO56 hM6 hb3 hb4 hx2 hx3 hx4 hx5 hx6 hx7 hx8 ho3 hp3 hp4 hp5
  go_loopw [11] (LRel w8 m) (fun i _ => m - (intOf i).toNat)
  case atStart => exact ⟨0, rfl, by omega, Below.refl _ _⟩
  case round =>
    obtain ⟨j, rfl, hj, hx⟩ := hrel
    rename World => w9
    have hr9 := hr8.ext hx
    have hb9 := hb8.ext hx
    by_cases hjn : j < m
    · obtain ⟨k, hk⟩ : ∃ k, M[j]? = some k := ⟨_, List.getElem?_eq_getElem (by have := HML.out; omega)⟩
      have hkb := ((hM8.ext hx).chunks.2.2 k (List.mem_of_getElem? hk)).1
      have HF := Lib.hid (find_pack HA.out HD3.out (List.mem_of_getElem? hk))
      have HK := Lib.hid hk
      clear hk
      go_wp2_with (first
        | ((with_reducible refine atSlot 66 ?_); refine wpList_of_wp rfl (owp_ix (o := ⟨some 66, _, _, _, _, _⟩) _ _ rfl Try.elC rfl hr9 j rfl rfl hjn ?_); intro b3 o3 hc3; have hrg3 := range_pre (range_get HK.out hc3); clear hc3)
        | ((with_reducible refine atSlot 68 ?_); refine wpList_of_wp rfl (wp_load_mid (op := ⟨some 68, _, _, _, _, _⟩) 44 _ rfl b3 o3 rfl [.int .u64 k.s, .int .i64 k.z] _ hrg3 Try.underlying44 rfl (by kernel_rfl) ?_))
        | (go_at_call 26; (with_reducible refine (Find_any a3 n3 c3 P k.s k.z _ hb9 (by omega)).mono ?_); rintro e w10 hp10; obtain ⟨a10, n10, c10, rfl, hb10, hx10⟩ := hp10.is HF.out; refine Stop.of ?_))
      have hr10 := hr9.ext hx10
      have hkb10 := hkb.ext hx10
      clear hrg3
      refine Stop.out ?_
      go_wp2
      refine wp_region_e [] (.qs [0, 1, 2, 3, 4, 5, 6, 7, 8, 9, 10, 11, 12] .nil) (by kernel_rfl) (by kernel_rfl) ?_
      iterate 4 ((refine wpY_q rfl rfl _ (fun w' hx' => by go_simp; try rfl) ?_; go_simp))
      refine wpY_conv rfl rfl (.tmp 75) rfl rfl (fun w' h => hb10.ext h) Try.underlying28 Try.underlying5 Try.underlying9 ?_
      iterate 2 ((refine wpY_q rfl rfl _ (fun w' hx' => by go_simp; try rfl) ?_; go_simp))
      refine wpY_ix rfl rfl (.tmp 77) (.tmp 78) rfl Try.elC rfl (fun w' h => hr10.ext h) j rfl rfl hjn ?_
      intro b5 o5 hc5
      have hd5 : ∀ w', Below w10.heap.size w10 w' → w'.cell? ⟨b5, o5 + 2, none⟩ = some (.slice k.a k.n k.c) := fun w' h => (hc5 2 (by omega) w' h).trans (cells_get HK.out 2 (by omega))
      clear hc5
      iterate 2 ((refine wpY_q rfl rfl _ (fun w' hx' => by go_simp; try rfl) ?_; go_simp))
      refine wpY_conv rfl rfl (.tmp 81) rfl rfl (fun w' h => hkb10.ext h) Try.underlying28 Try.underlying5 Try.underlying9 ?_
      iterate 2 ((refine wpY_q rfl rfl _ (fun w' hx' => by go_simp; try rfl) ?_; go_simp))
      refine wpY_nil ?_
      clear hd5
      go_wp2
      go_roundw
      case rel => exact ⟨j + 1, by go_num, by omega, (hx.trans' hx10).trans' (Ext.drew' _)⟩
      case measure => simp [intOf]; omega
    · have hd : decide (j < m) = false := by simpa using hjn
      go_wp2
      go_ret
      exact ⟨rfl, hx08.trans' hx⟩
end Go.Proofs.Ytncdcpaelecikaa
