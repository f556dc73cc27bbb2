/-
  The law DeltaGreedy. The walk rests on one fact of the world: the cell of the library's MaxLen holds an int.
-/
import Derived.Test.YtcljlglmnagodaaDelM
import Derived.Test.YtcljlglmnagodaaDelSz
import Derived.Test.YtcljlglmnagodaaMathM
import Derived.Test.YtcljlglmnagodaaShelf
import Derived.Deep.CutRange
namespace Go.Proofs.Ytcljlglmnagodaa
open Go.RowKit

def GrRel (w0 : World) (D : List Dp) (at_ i : Value) (wr : World) : Prop := ∃ j : Nat, i = .int .i64 j ∧ at_ = .int .i64 (sizeD (D.take j) : Nat) ∧ j ≤ D.length ∧ Ext w0 wr
def GiRel (w0 : World) (n : Nat) (i : Value) (wr : World) : Prop := ∃ kk : Nat, i = .int .i64 kk ∧ kk ≤ n ∧ Ext w0 wr

set_option maxRecDepth 100000 in
set_option maxHeartbeats 8000000 in
theorem DeltaGreedy_walk (a1 : Option Addr) (n1 c1 : Nat) (L1 : List Int) (w : World) (hsh : w.ShapedOpen Try.prog)
    (hl : Row w a1 n1 c1 1 (L1.map (Value.int .i64))) (hli : ∀ x ∈ L1, -9223372036854775808 ≤ x ∧ x ≤ 9223372036854775807) (ha1 : ∀ p, a1 = some p → 0 < n1 → p.block < w.heap.size) :
    Calls Try.prog 13 #[.slice a1 n1 c1] w (LawPost w) := by
  obtain ⟨mm, hmm⟩ := Try.maxlen_shaped w hsh
  have ht : Tape (w.alloc (.cells #[.slice a1 n1 c1, .int .i64 0] 25)) w.heap.size 0 :=
    ⟨a1, n1, c1, L1, heap_alloc_new w _, hl.ext (Ext.alloc' _ _), ha1, hli⟩
  have hx1 : Ext w (w.alloc (.cells #[.slice a1 n1 c1, .int .i64 0] 25)) := Ext.alloc' _ _
  have HT := Lib.hid ht
  have HM := Lib.hid hmm
  have t1 : True := trivial
  clear ht hl hmm hsh
  go_enter Try.func13, Try.ntmps13
  go_wp2_with (first
    | (go_at_call 24; have _t := t1; (with_reducible refine (text_any w.heap.size 0 60 60 (by omega) _ HT.out (by omega) (by omega)).mono ?_); rintro e w2 ⟨a2, m2, c2, k2, l2, rfl, ho2, hm2, ht2, hk2, hg2⟩; clear t1)
    | (go_at_call 24; (with_reducible refine (text_any w.heap.size k2 60 60 (by omega) _ ht2 (by omega) (by omega)).mono ?_); rintro e w3 ⟨a3, m3, c3, k3, l3, rfl, ho3, hm3, ht3, hk3, hg3⟩; refine Stop.of ?_)
    | fail)
  have hx2 := hx1.rd hg2 (Nat.le_refl _)
  have hx3 := hx2.rd hg3 (Nat.le_refl _)
  have hb2 := (Bytes.of_own ho2).apart hg3 (fun p hp => by have := own_fresh ho2 p hp; simp at this; omega)
  have hb3 := Bytes.of_own ho3
  have hmk : makeRes l2 l3 = (makeD l2 l3, 0) := by
    have h1 := hb2.len
    have h2 := hb3.len
    unfold makeRes
    rw [if_neg (by omega)]
  have hinv := make_inv l2 l3
  have hsz := make_size l2 l3
  obtain ⟨D, hD⟩ : ∃ D, D = makeD l2 l3 := ⟨_, rfl⟩
  rw [← hD] at hmk hinv hsz
  rw [hb3.len] at hsz
  have HMK := Lib.hid hmk
  have HINV := Lib.hid hinv
  have HSZ := Lib.hid hsz
  have HL3 := Lib.hid hb3.len
  clear ho2 ho3 hg2 hg3 ht2 ht3 hx2 hmk hinv hsz hD
  refine Stop.out ?_
  go_wp2_with (first
    | (go_at_call 26; (with_reducible refine (Make_any _ _ _ _ _ _ _ _ _ hb2 hb3 (by omega) (by omega) HMK.out).mono ?_); rintro e w4 ⟨a4, n4, c4, L4, rfl, hL4, hD4, hx4⟩; have HD4 := Lib.hid hD4; clear hD4; refine Stop.of ?_)
    | fail)
  have hn4 : n4 ≤ 60 := by
    have h1 := length_size HINV.out.nm.2
    have h2 := congrArg List.length HD4.out
    rw [List.length_map, hL4.1] at h2
    have := HSZ.out
    omega
  have hsi : ∀ w', Ext w4 w' → Calls Try.prog 42 #[.slice a4 n4 c4] w' (NewNone (.int .i64 (m3 : Int)) w') := fun w' h =>
    Size_any a4 n4 c4 L4 w' (hL4.ext h) (by omega) (fun k hk => (HINV.out.nm.2 k.d (by rw [← HD4.out]; exact List.mem_map_of_mem hk)).fine.imp (fun h => h.1) id) (by rw [HD4.out]; exact HSZ.out) (by omega)
  have HSI := Lib.hid hsi
  obtain ⟨p1, p2⟩ := eqI (x := (m3 : Int)) (y := m3) rfl
  clear hsi
  refine Stop.out ?_
  go_wp2_with (first
    | (go_at_call 28; (with_reducible refine (known_any _).mono ?_); rintro e w5 ⟨rfl, hx5⟩)
    | (go_at_call 42; (with_reducible refine (HSI.out _ hx5).mono ?_); rintro e w6 ⟨rfl, hx6⟩)
    | fail)
  have hx46 : Ext w4 w6 := Ext.trans' hx5 hx6
  have hb2' := hb2.ext (hx4.trans' hx46)
  have hb3' := hb3.ext (hx4.trans' hx46)
  have hL6 := hL4.ext hx46
  have hx06 := (hx3.trans' hx4).trans' hx46
  have hrw : ∀ w', Ext w6 w' → Row w' a4 n4 c4 3 (L4.flatMap Od.cells) := fun w' h => hL6.2.1.ext h
  have hmm6 : ∀ w', Ext w6 w' → w'.cell? ⟨0, 0, none⟩ = some (.int .i64 mm) := fun w' h => (hx06.trans' h).cell' HM.out
  have HRW := Lib.hid hrw
  have HMM := Lib.hid hmm6
  have HB2 := Lib.hid hb2'
  have HB3 := Lib.hid hb3'
  have HL6 := Lib.hid hL6
  have hLn : D.length = n4 := by rw [← HD4.out, List.length_map]; exact hL6.1
  have HLN := Lib.hid hLn
  clear hb2 hb3 hL4 hrw hmm6 hb2' hb3' hL6 hLn hx5 hx6 hx46 hx4 hx3 p1 p2
  go_loopw [8, 9] (GrRel w6 D) (fun _ i _ => n4 - (intOf i).toNat)
  case atStart => exact ⟨0, rfl, rfl, Nat.zero_le _, Below.refl _ _⟩
  case round =>
    obtain ⟨j, rfl, rfl, hj, hx7⟩ := hrel
    rename World => w7
    have hjn' : j ≤ n4 := by have := HLN.out; omega
    by_cases hjn : j < n4
    rotate_left
    · obtain rfl : j = n4 := by omega
      go_wp2
      go_ret
      exact ⟨rfl, hx06.trans' hx7⟩
    obtain ⟨k, hk⟩ : ∃ k, L4[j]? = some k := ⟨_, List.getElem?_eq_getElem (by have := HL6.out.1; omega)⟩
    have hkD : D[j]? = some k.d := by rw [← HD4.out, List.getElem?_map, hk]; rfl
    have hkl := (HL6.out.2.2 k (List.mem_of_getElem? hk)).1.len
    have hnice := HINV.out.nm.2 k.d (List.mem_of_getElem? hkD)
    have hbig := HINV.out.big k.d (List.mem_of_getElem? hkD)
    have hst := sizeD_le_take hkD
    have hle := sizeD_take_leM D (j + 1)
    have hsz := hnice.size
    have hsz2 : (k.d.size : Int) = k.z + k.n := by rw [hsz]; show k.z + (k.l.length : Int) = _; rw [hkl]
    have hz0 : 0 ≤ k.z := by
      rcases hnice with h | h
      · exact Int.le_trans (by decide) h.1
      · exact Int.le_of_eq h.1.symm
    obtain ⟨T, hT⟩ : ∃ T, T = sizeD (D.take j) := ⟨_, rfl⟩
    rw [← hT] at hst ⊢
    have hgr : ∀ kk, kk < k.n → T + kk + 4 ≤ m3 → Lib.contains l2 ((l3.drop (T + kk)).take 4) = false := fun kk h1 h2 => by
      rw [hT]
      exact greedy_at HINV.out hkD (by show kk < k.l.length; omega) (by have := HL3.out; omega)
    have hS := HSZ.out
    have hTs : (T : Int) + (k.z + k.n) ≤ 60 := by omega
    have hnx : ((sizeD (D.take (j + 1)) : Nat) : Int) = (T : Int) + (k.z + k.n) := by rw [hst]; omega
    have hbig' : 0 < k.z → 4 ≤ k.z := fun h => hbig (by show 1 ≤ k.z; omega)
    have HK := Lib.hid hk
    have HGR := Lib.hid hgr
    have HNX := Lib.hid hnx
    have HBIG := Lib.hid hbig'
    clear hk hkD hnice hbig hst hle hsz hsz2 hgr hnx hT hS hbig' hkl
    go_wp2
    go_loopw [10] (GiRel w7 k.n) (fun i _ => k.n - (intOf i).toNat)
    case atStart => exact ⟨0, rfl, Nat.zero_le _, Below.refl _ _⟩
    case round =>
      obtain ⟨kk, rfl, hkk, hx8⟩ := hrel
      rename World => w8
      have hx68 := hx7.trans' hx8
      by_cases hin : kk < k.n ∧ T + kk + 4 ≤ m3
      · obtain ⟨hin1, hin2⟩ := hin
        have hd1 : decide ((kk : Int) < k.n) = true := decide_eq_true (by omega)
        have hd2 : decide ((T : Int) + kk + 4 ≤ m3) = true := decide_eq_true (by omega)
        go_wp2_with (first
          | ((with_reducible refine atSlot 46 ?_); refine wpList_of_wp rfl (owp_ix (o := ⟨some 46, _, _, _, _, _⟩) _ _ rfl Try.elO rfl (HRW.out _ hx68) j rfl rfl hjn ?_); intro b3 o3 hc3; have hd3 := (hc3 2 (by decide)).trans (od_get HK.out 2 (by decide)); simp only [Od.cells, List.getElem?_cons_succ, List.getElem?_cons_zero] at hd3; clear hc3)
          | fail)
        have E9 := hx68.trans' (Ext.drew' w8)
        have hs2 : (⟨l2.toArray⟩ : ByteArray).size < 4294967281 := by
          show l2.toArray.size < _
          rw [List.size_toArray, HB2.out.len]; omega
        have hcon : Lib.contains (⟨l2.toArray⟩ : ByteArray).data.toList (⟨((l3.drop (T + kk)).take 4).toArray⟩ : ByteArray).data.toList = false := HGR.out kk hin1 hin2
        have hct := Try.strings_Contains ⟨l2.toArray⟩ ⟨((l3.drop (T + kk)).take 4).toArray⟩ mm w8.drew hs2 (HMM.out _ E9)
        rw [hcon] at hct
        have HCT := Lib.hid hct
        have u1 : IntKind.i64.wrap ((T : Int) + (kk : Int)) = (T : Int) + (kk : Int) := by rw [IntKind.wrap_i64]; omega
        have u2 : IntKind.i64.wrap ((T : Int) + (kk : Int) + 4) = (T : Int) + (kk : Int) + 4 := by rw [IntKind.wrap_i64]; omega
        clear hcon hct hs2 hd1 hd2
        refine wp_region_e [] (.qs [0, 1, 2, 3, 4, 5, 6, 7, 8, 9, 10, 11] (.l 12 .nil)) (by kernel_rfl) (by kernel_rfl) ?_
        ((refine wpY_q rfl rfl _ (fun w' hx' => by go_simp; try rfl) ?_; go_simp))
        refine wpY_conv rfl rfl (.tmp 62) rfl rfl (fun w' h => HB2.out.ext (hx68.trans' h)) Try.underlying26 Try.underlying5 Try.underlying9 ?_
        iterate 8 ((refine wpY_q rfl rfl _ (fun w' hx' => by go_simp; try rfl) ?_; go_simp))
        refine wpY_sl rfl rfl (.tmp 64) (.tmp 67) (.tmp 71) rfl Try.elB rfl (fun w' h => (HB3.out.ext (hx68.trans' h)).row) (T + kk) 4 rfl rfl (by omega) (by omega) (by omega) ?_
        intro a5 hr5
        refine wpY_conv rfl rfl (.tmp 72) rfl rfl (fun w' h => Bytes.sub (hr5 w' h)) Try.underlying26 Try.underlying5 Try.underlying9 ?_
        refine wpY_l rfl rfl ?_
        go_simp
        refine HCT.out.mono ?_
        rintro e w9 ⟨rfl, rfl⟩
        refine ⟨Ext.drew' w8, ?_⟩
        go_simp
        refine wpY_nil ?_
        clear u1 u2 hr5
        go_wp2
        go_roundw
        case rel => exact ⟨kk + 1, by go_num, by omega, hx8.trans' (Ext.drew' w8)⟩
        case measure => simp [intOf]; omega
      · obtain ⟨q1, hq⟩ : ∃ q1 : Bool, (q1 = false ∧ decide (kk < k.n) = false) ∨ (q1 = true ∧ decide ((kk : Int) < k.n) = true ∧ m3 < T + kk + 4 ∧ kk < k.n) := by
          by_cases h : kk < k.n
          · exact ⟨true, .inr ⟨rfl, decide_eq_true (by omega), by omega, h⟩⟩
          · exact ⟨false, .inl ⟨rfl, decide_eq_false (by omega)⟩⟩
        obtain ⟨q2, hz⟩ : ∃ q2 : Bool, (q2 = false ∧ decide ((0 : Int) < k.z) = false) ∨ (q2 = true ∧ decide ((0 : Int) < k.z) = true ∧ decide (k.z < 4) = false) := by
          by_cases h : 0 < k.z
          · exact ⟨true, .inr ⟨rfl, decide_eq_true h, decide_eq_false (by have := HBIG.out h; omega)⟩⟩
          · exact ⟨false, .inl ⟨rfl, decide_eq_false h⟩⟩
        have hrw8 : ∀ w', Ext w8 w' → Row w' a4 n4 c4 3 (L4.flatMap Od.cells) := fun w' h => HRW.out _ (hx68.trans' h)
        have HRW8 := Lib.hid hrw8
        clear hin hrw8
        rcases hq with ⟨-, g1⟩ | ⟨-, g1, g2, g5⟩ <;> rcases hz with ⟨-, g3⟩ | ⟨-, g3, g4⟩
        all_goals
          go_wp2_with (first
            | ((with_reducible refine atSlot 46 ?_); refine wpList_of_wp rfl (owp_ix (o := ⟨some 46, _, _, _, _, _⟩) _ _ rfl Try.elO rfl (HRW8.out _ (Below.refl _ _)) j rfl rfl hjn ?_); intro b3 o3 hc3; have hd3 := (hc3 2 (by decide)).trans (od_get HK.out 2 (by decide)); simp only [Od.cells, List.getElem?_cons_succ, List.getElem?_cons_zero] at hd3; clear hc3)
            | ((with_reducible refine atSlot 77 ?_); refine wpList_of_wp rfl (owp_ix (o := ⟨some 77, _, _, _, _, _⟩) _ _ rfl Try.elO rfl (HRW8.out _ (Below.refl _ _)) j rfl rfl hjn ?_); intro b4 o4 hc4; have hd4 := (hc4 1 (by decide)).trans (od_get HK.out 1 (by decide)); simp only [Od.cells, List.getElem?_cons_succ, List.getElem?_cons_zero] at hd4; clear hc4)
            | ((with_reducible refine atSlot 84 ?_); refine wpList_of_wp rfl (owp_ix (o := ⟨some 84, _, _, _, _, _⟩) _ _ rfl Try.elO rfl (HRW8.out _ (Below.refl _ _)) j rfl rfl hjn ?_); intro b5 o5 hc5; have hd5 := (hc5 1 (by decide)).trans (od_get HK.out 1 (by decide)); simp only [Od.cells, List.getElem?_cons_succ, List.getElem?_cons_zero] at hd5; clear hc5)
            | fail)
          have u1 : IntKind.i64.wrap (k.z + (k.n : Int)) = k.z + (k.n : Int) := by rw [IntKind.wrap_i64]; omega
          have u2 : IntKind.i64.wrap ((T : Int) + (k.z + (k.n : Int))) = (T : Int) + (k.z + (k.n : Int)) := by rw [IntKind.wrap_i64]; omega
          refine wp_region_e [] (.qs [0, 1, 2, 3, 4, 5, 6, 7, 8, 9, 10, 11, 12, 13, 14] .nil) (by kernel_rfl) (by kernel_rfl) ?_
          iterate 3 ((refine wpY_q rfl rfl _ (fun w' hx' => by go_simp; try rfl) ?_; go_simp))
          refine wpY_ix rfl rfl (.tmp 90) (.tmp 91) rfl Try.elO rfl HRW8.out j rfl rfl hjn ?_
          intro b6 o6 hc6
          have hd6 : ∀ w', Ext w8 w' → w'.cell? ⟨b6, o6 + 1, none⟩ = some (.int .i64 k.z) := fun w' h => (hc6 1 (by omega) w' h).trans (od_get HK.out 1 (by omega))
          clear hc6
          ((refine wpY_q rfl rfl _ (fun w' hx' => by go_simp; try rfl) ?_; go_simp))
          refine wpY_q rfl rfl (.int .i64 k.z) (fun w' hx' => by have hb' := hd6 w' hx'; go_simp; try rfl) ?_
          go_simp
          iterate 2 ((refine wpY_q rfl rfl _ (fun w' hx' => by go_simp; try rfl) ?_; go_simp))
          refine wpY_ix rfl rfl (.tmp 95) (.tmp 96) rfl Try.elO rfl HRW8.out j rfl rfl hjn ?_
          intro b7 o7 hc7
          have hd7 : ∀ w', Ext w8 w' → w'.cell? ⟨b7, o7 + 2, none⟩ = some (.slice k.a k.n k.c) := fun w' h => (hc7 2 (by omega) w' h).trans (od_get HK.out 2 (by omega))
          clear hc7
          ((refine wpY_q rfl rfl _ (fun w' hx' => by go_simp; try rfl) ?_; go_simp))
          refine wpY_q rfl rfl (.slice k.a k.n k.c) (fun w' hx' => by have hb' := hd7 w' hx'; go_simp; try rfl) ?_
          go_simp
          iterate 4 ((refine wpY_q rfl rfl _ (fun w' hx' => by go_simp; try rfl) ?_; go_simp))
          refine wpY_nil ?_
          go_simp
          clear u1 u2 hd6 hd7
          go_wp2
          go_roundw
          case rel => exact ⟨j + 1, by go_num, congrArg (Value.int IntKind.i64) (by rw [HNX.out]), by have := HLN.out; omega, hx68.trans' (Ext.drew' w8)⟩
          case measure => simp [intOf]; omega
end Go.Proofs.Ytcljlglmnagodaa
