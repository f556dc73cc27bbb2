/-
  The reference's Same, where the lists are equal; the statements' example.
-/
import Derived.Test.YtcljlglmnagodaaDelJ
import Derived.Test.YtcljlglmnagodaaDelK
namespace Go.Proofs.Ytcljlglmnagodaa
open Go.RowKit

theorem Bytes.of_heap {w : World} {g e : Nat} {fr : Nat × Nat} {l : List UInt8} (h : w.heap[g]? = some (.cells (l.map u8).toArray e fr)) (hm : l.length ≤ maxLen) : Bytes w (some ⟨g, 0, none⟩) l.length l.length l :=
  ⟨rfl, by simp, Nat.le_refl _, hm, (fun h => nomatch h), (fun p hp => .inr ⟨_, _, (Option.some.inj hp).symm⟩), fun p hp j u hj => by
    cases hp
    rw [Addr.add_lit, Nat.zero_add, cell_of_row w g j _ _ _ h, ← hj]
    simp⟩

set_option maxRecDepth 100000 in
set_option maxHeartbeats 2000000 in
theorem Same_any (a1 : Option Addr) (n1 c1 : Nat) (a2 : Option Addr) (n2 c2 : Nat) (L1 L2 : List Od) (w : World) (h1 : Ops w a1 n1 c1 L1) (h2 : Ops w a2 n2 c2 L2) (heq : L1.map Od.d = L2.map Od.d) (hn : n1 ≤ 1000000000000) :
    Calls Try.prog 29 #[.slice a1 n1 c1, .slice a2 n2 c2] w (NewNone (.bool true) w) := by
  obtain rfl : n1 = n2 := by
    have := congrArg List.length heq
    simp at this
    rw [← h1.1, ← h2.1, this]
  have HL := Lib.hid h1.1
  have HEQ := Lib.hid heq
  clear heq
  go_enter Try.func29, Try.ntmps29
  go_wp2
  go_loopw [5] (SameRel w n1) (fun i _ => n1 - (intOf i).toNat)
  case atStart => exact ⟨0, rfl, by omega, Below.refl _ _⟩
  case round =>
    obtain ⟨j, rfl, hj, hx⟩ := hrel
    rename World => w1
    by_cases hjn : j < n1
    · obtain ⟨k, hk⟩ : ∃ k, L1[j]? = some k := ⟨_, List.getElem?_eq_getElem (by have := HL.out; omega)⟩
      have hk2 : ∃ k2, L2[j]? = some k2 ∧ k2.d = k.d := by
        have h := congrArg (fun L : List Dp => L[j]?) HEQ.out
        simp only [List.getElem?_map, hk, Option.map_some] at h
        cases h2 : L2[j]? with
        | none => rw [h2] at h; cases h
        | some k2 => rw [h2] at h; exact ⟨k2, rfl, (Option.some.inj h).symm⟩
      obtain ⟨k2, hk2, hd⟩ := hk2
      obtain ⟨f2, z2, q2, m2, d2, l2⟩ := k2
      obtain ⟨rfl, rfl, rfl⟩ : f2 = k.f ∧ z2 = k.z ∧ l2 = k.l := by simpa [Od.d] using hd
      have hb1 := (h1.2.2 k (List.mem_of_getElem? hk)).1.ext hx
      have hb2 : Bytes w1 q2 m2 d2 k.l := (h2.2.2 _ (List.mem_of_getElem? hk2)).1.ext hx
      have hr1 := h1.2.1.ext hx
      have hr2 := h2.2.1.ext hx
      have HK := Lib.hid hk
      have HK2 := Lib.hid hk2
      clear hk hk2 hd
      go_wp2
      refine wp_region_e [] (.qs [0, 1, 2, 3, 4, 5, 6, 7, 8, 9, 10, 11, 12, 13, 14, 15, 16, 17, 18, 19, 20, 21, 22, 23, 24, 25, 26, 27, 28, 29, 30, 31, 32, 33, 34, 35, 36, 37, 38] .nil) (by kernel_rfl) (by kernel_rfl) ?_
      iterate 2 ((refine wpY_q rfl rfl _ (fun w' hx' => by go_simp; try rfl) ?_; go_simp))
      refine wpY_ix rfl rfl (.tmp 17) (.tmp 18) rfl Try.elO rfl (fun w' h => hr1.ext h) j rfl rfl hjn ?_
      intro b3 o3 hc3
      have hd3 : ∀ w', Below w1.heap.size w1 w' → w'.cell? ⟨b3, o3, none⟩ = some (.int .i64 k.f) := fun w' h => (hc3 0 (by omega) w' h).trans (od_get HK.out 0 (by omega))
      clear hc3
      iterate 4 ((refine wpY_q rfl rfl _ (fun w' hx' => by go_simp; try rfl) ?_; go_simp))
      refine wpY_ix rfl rfl (.tmp 22) (.tmp 23) rfl Try.elO rfl (fun w' h => hr2.ext h) j rfl rfl hjn ?_
      intro b4 o4 hc4
      have hd4 : ∀ w', Below w1.heap.size w1 w' → w'.cell? ⟨b4, o4, none⟩ = some (.int .i64 k.f) := fun w' h => (hc4 0 (by omega) w' h).trans (od_get HK2.out 0 (by omega))
      clear hc4
      iterate 6 ((refine wpY_q rfl rfl _ (fun w' hx' => by go_simp; try rfl) ?_; go_simp))
      refine wpY_ix rfl rfl (.tmp 29) (.tmp 30) rfl Try.elO rfl (fun w' h => hr1.ext h) j rfl rfl hjn ?_
      intro b5 o5 hc5
      have hd5 : ∀ w', Below w1.heap.size w1 w' → w'.cell? ⟨b5, o5 + 1, none⟩ = some (.int .i64 k.z) := fun w' h => (hc5 1 (by omega) w' h).trans (od_get HK.out 1 (by omega))
      clear hc5
      iterate 4 ((refine wpY_q rfl rfl _ (fun w' hx' => by go_simp; try rfl) ?_; go_simp))
      refine wpY_ix rfl rfl (.tmp 34) (.tmp 35) rfl Try.elO rfl (fun w' h => hr2.ext h) j rfl rfl hjn ?_
      intro b6 o6 hc6
      have hd6 : ∀ w', Below w1.heap.size w1 w' → w'.cell? ⟨b6, o6 + 1, none⟩ = some (.int .i64 k.z) := fun w' h => (hc6 1 (by omega) w' h).trans (od_get HK2.out 1 (by omega))
      clear hc6
      iterate 7 ((refine wpY_q rfl rfl _ (fun w' hx' => by go_simp; try rfl) ?_; go_simp))
      refine wpY_ix rfl rfl (.tmp 42) (.tmp 43) rfl Try.elO rfl (fun w' h => hr1.ext h) j rfl rfl hjn ?_
      intro b7 o7 hc7
      have hd7 : ∀ w', Below w1.heap.size w1 w' → w'.cell? ⟨b7, o7 + 2, none⟩ = some (.slice k.a k.n k.c) := fun w' h => (hc7 2 (by omega) w' h).trans (od_get HK.out 2 (by omega))
      clear hc7
      iterate 2 ((refine wpY_q rfl rfl _ (fun w' hx' => by go_simp; try rfl) ?_; go_simp))
      refine wpY_conv rfl rfl (.tmp 46) rfl rfl (fun w' h => hb1.ext h) Try.underlying26 Try.underlying5 Try.underlying9 ?_
      iterate 2 ((refine wpY_q rfl rfl _ (fun w' hx' => by go_simp; try rfl) ?_; go_simp))
      refine wpY_ix rfl rfl (.tmp 48) (.tmp 49) rfl Try.elO rfl (fun w' h => hr2.ext h) j rfl rfl hjn ?_
      intro b8 o8 hc8
      have hd8 : ∀ w', Below w1.heap.size w1 w' → w'.cell? ⟨b8, o8 + 2, none⟩ = some (.slice q2 m2 d2) := fun w' h => (hc8 2 (by omega) w' h).trans (od_get HK2.out 2 (by omega))
      clear hc8
      iterate 2 ((refine wpY_q rfl rfl _ (fun w' hx' => by go_simp; try rfl) ?_; go_simp))
      refine wpY_conv rfl rfl (.tmp 52) rfl rfl (fun w' h => hb2.ext h) Try.underlying26 Try.underlying5 Try.underlying9 ?_
      iterate 2 ((refine wpY_q rfl rfl _ (fun w' hx' => by go_simp; try rfl) ?_; go_simp))
      refine wpY_nil ?_
      go_wp2
      go_roundw
      case rel => exact ⟨j + 1, by go_num, by omega, hx.trans' (Ext.drew' _)⟩
      case measure => simp [intOf]; omega
    · obtain rfl : j = n1 := by omega
      go_wp2
      go_ret
      exact ⟨rfl, hx⟩

theorem known_make : makeRes [97, 98, 99, 100, 101, 102] [97, 98, 99, 100, 88, 97, 98, 99, 100, 101, 102] = ([⟨0, 4, []⟩, ⟨0, 0, [88]⟩, ⟨0, 6, []⟩], 0) := by decide
theorem known_enc : encDRes 6 [⟨0, 4, []⟩, ⟨0, 0, [88]⟩, ⟨0, 6, []⟩] = ([3, 9, 0, 2, 88, 13, 0], 0) := by
  have h : (ckRes 6 [⟨0, 4, []⟩, ⟨0, 0, [88]⟩, ⟨0, 6, []⟩]).2 = 0 := by decide
  unfold encDRes
  rw [if_pos h]
  simp [encD, encOps, Dp.enc, Dp.copies, enc_lt]

theorem i64_of {x : Int} (h1 : -9223372036854775808 ≤ x) (h2 : x ≤ 9223372036854775807) : i64B x := ⟨h1, h2⟩
theorem known_same (w3 w4 w5 : World) (a3 : Option Addr) (c3 : Nat) (L3 : List Od) (hL3 : Ops w3 a3 3 c3 L3) (hx4 : Ext w3 w4) (E5 : Ext w4 w5) (hb5 : Bytes w5 (some ⟨w4.heap.size, 0, none⟩) 1 1 [88])
    (hD : L3.map Od.d = [⟨0, 4, []⟩, ⟨0, 0, [88]⟩, ⟨0, 6, []⟩]) :
    Calls Try.prog 29 #[.slice a3 3 c3, .slice (some ⟨w5.heap.size, 0, none⟩) 3 3] (w5.alloc (.cells #[.int .i64 0, .int .i64 4, .slice none 0 0, .int .i64 0, .int .i64 0, .slice (some ⟨w4.heap.size, 0, none⟩) 1 1, .int .i64 0, .int .i64 6, .slice none 0 0] 39))
      (NewNone (.bool true) (w5.alloc (.cells #[.int .i64 0, .int .i64 4, .slice none 0 0, .int .i64 0, .int .i64 0, .slice (some ⟨w4.heap.size, 0, none⟩) 1 1, .int .i64 0, .int .i64 6, .slice none 0 0] 39))) := by
  have hO : Ops (w5.alloc (.cells #[.int .i64 0, .int .i64 4, .slice none 0 0, .int .i64 0, .int .i64 0, .slice (some ⟨w4.heap.size, 0, none⟩) 1 1, .int .i64 0, .int .i64 6, .slice none 0 0] 39)) (some ⟨w5.heap.size, 0, none⟩) 3 3
      [⟨0, 4, none, 0, 0, []⟩, ⟨0, 0, some ⟨w4.heap.size, 0, none⟩, 1, 1, [88]⟩, ⟨0, 6, none, 0, 0, []⟩] := by
    refine ⟨rfl, Row.new w5 #[.int .i64 0, .int .i64 4, .slice none 0 0, .int .i64 0, .int .i64 0, .slice (some ⟨w4.heap.size, 0, none⟩) 1 1, .int .i64 0, .int .i64 6, .slice none 0 0] _ 3 3 rfl (by decide), fun k hk => ?_⟩
    simp only [List.mem_cons, List.not_mem_nil, or_false] at hk
    rcases hk with rfl | rfl | rfl
    · exact ⟨Bytes.nil _, Nat.zero_le _, (i64_of (by decide) (by decide) : i64B 0), (i64_of (by decide) (by decide) : i64B 4)⟩
    · exact ⟨hb5.ext (Ext.alloc' _ _), (by decide : 1 ≤ 140737488355328), (i64_of (by decide) (by decide) : i64B 0), (i64_of (by decide) (by decide) : i64B 0)⟩
    · exact ⟨Bytes.nil _, Nat.zero_le _, (i64_of (by decide) (by decide) : i64B 0), (i64_of (by decide) (by decide) : i64B 6)⟩
  exact Same_any a3 3 c3 _ 3 3 L3 _ _ ((hL3.ext (hx4.trans' E5)).ext (Ext.alloc' _ _)) hO (by rw [hD]; rfl) (by omega)

set_option maxRecDepth 100000 in
set_option maxHeartbeats 2000000 in
theorem known_any (w : World) : Calls Try.prog 28 #[] w (LawPost w) := by
  have h6 : ([97, 98, 99, 100, 101, 102] : List UInt8).length ≤ maxLen := by decide
  have h11 : ([97, 98, 99, 100, 88, 97, 98, 99, 100, 101, 102] : List UInt8).length ≤ maxLen := by decide
  have H6 := Lib.hid h6
  have H11 := Lib.hid h11
  have h1 : ([88] : List UInt8).length ≤ maxLen := by decide
  have H1 := Lib.hid h1
  clear h1
  clear h6 h11
  go_enter Try.func28, Try.ntmps28
  go_wp2_with (first
    | ((with_reducible refine atSlot 7 ?_); refine wpList_of_wp rfl (owp_cc (o := ⟨some 7, _, _, _, _, _⟩) _ rfl rfl Try.underlying26 Try.underlying5 (heap_alloc_new w _) ?_); intro w1 hh1 hg1; have E1 : Ext w w1 := (Ext.alloc' w (.cells #[.int .u8 97, .int .u8 98, .int .u8 99, .int .u8 100, .int .u8 101, .int .u8 102] 5)).grown hg1 (by simp) (fun k hk => by cases hk; exact Nat.le_refl _); have hb1 : Bytes w1 (some ⟨w.heap.size, 0, none⟩) 6 6 [97, 98, 99, 100, 101, 102] := Bytes.of_heap (l := [97, 98, 99, 100, 101, 102]) hh1 H6.out; clear hh1 hg1)
    | ((with_reducible refine atSlot 9 ?_); refine wpList_of_wp rfl (owp_cc (o := ⟨some 9, _, _, _, _, _⟩) _ rfl rfl Try.underlying26 Try.underlying5 (heap_alloc_new w1 _) ?_); intro w2 hh2 hg2; have E2 : Ext w1 w2 := (Ext.alloc' w1 (.cells #[.int .u8 97, .int .u8 98, .int .u8 99, .int .u8 100, .int .u8 88, .int .u8 97, .int .u8 98, .int .u8 99, .int .u8 100, .int .u8 101, .int .u8 102] 5)).grown hg2 (by simp) (fun k hk => by cases hk; exact Nat.le_refl _); have hb2 : Bytes w2 (some ⟨w1.heap.size, 0, none⟩) 11 11 [97, 98, 99, 100, 88, 97, 98, 99, 100, 101, 102] := Bytes.of_heap (l := [97, 98, 99, 100, 88, 97, 98, 99, 100, 101, 102]) hh2 H11.out; clear hh2 hg2)
    | (go_at_call 26; (with_reducible refine (Make_any _ _ _ _ _ _ _ _ _ (hb1.ext E2) hb2 (by omega) (by omega) known_make).mono ?_); rintro e w3 ⟨a3, n3, c3, L3, rfl, hL3, hD3, hx3⟩; have hn3 : n3 = 3 := (by have h := congrArg List.length hD3; rw [List.length_map, hL3.1] at h; exact h); subst hn3; have hen : encDRes 6 (L3.map Od.d) = ([3, 9, 0, 2, 88, 13, 0], 0) := (by rw [hD3]; exact known_enc); have HD3 := Lib.hid hD3; have HEN := Lib.hid hen; clear hD3 hen)
    | (go_at_call 45; (with_reducible refine (Encode_any _ _ _ _ _ _ hL3 (by omega) HEN.out).mono ?_); rintro e w4 ⟨a4, n4, c4, rfl, ho4, hx4⟩)
    | ((with_reducible refine atSlot 28 ?_); refine wpList_of_wp rfl (owp_cc (o := ⟨some 28, _, _, _, _, _⟩) _ rfl rfl Try.underlying26 Try.underlying5 (heap_alloc_new w4 _) ?_); intro w5 hh5 hg5; have E5 : Ext w4 w5 := (Ext.alloc' w4 (.cells #[.int .u8 88] 5)).grown hg5 (by simp) (fun k hk => by cases hk; exact Nat.le_refl _); have hb5 : Bytes w5 (some ⟨w4.heap.size, 0, none⟩) 1 1 [88] := Bytes.of_heap (l := [88]) hh5 H1.out; clear hh5 hg5; have hS := known_same w3 w4 w5 a3 c3 L3 hL3 hx4 E5 hb5 HD3.out)
    | (go_at_call 29; (with_reducible refine hS.mono ?_); rintro e w6 ⟨rfl, hx6⟩; have E6 := (E5.trans' (Ext.alloc' w5 (.cells #[.int .i64 0, .int .i64 4, .slice none 0 0, .int .i64 0, .int .i64 0, .slice (some ⟨w4.heap.size, 0, none⟩) 1 1, .int .i64 0, .int .i64 6, .slice none 0 0] 39))).trans' hx6; have hb6 := (Bytes.of_own ho4).ext E6; clear hS)
    | ((with_reducible refine atSlot 36 ?_); refine wpList_of_wp rfl (owp_conv (o := ⟨some 36, _, _, _, _, _⟩) _ rfl rfl hb6 Try.underlying26 Try.underlying5 Try.underlying9 ?_))
    | fail)

  go_ret
  exact ⟨rfl, (((E1.trans' E2).trans' hx3).trans' hx4).trans' E6⟩
end Go.Proofs.Ytcljlglmnagodaa
