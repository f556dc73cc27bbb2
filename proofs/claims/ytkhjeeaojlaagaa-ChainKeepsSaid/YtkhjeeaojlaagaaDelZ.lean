/-
  bytes and Cost, the reference's.
-/
import Derived.Test.YtkhjeeaojlaagaaDelY
namespace Go.Proofs.Ytkhjeeaojlaagaa
open Go.RowKit

theorem fine_all {L : List Od} (h : (L.map Od.d).all fineB = true) {j : Nat} {k : Od} (hk : L[j]? = some k) : fineB k.d = true := by
  rw [List.all_eq_true] at h
  exact h _ (List.mem_map_of_mem (List.mem_of_getElem? hk))

set_option maxRecDepth 100000 in
set_option maxHeartbeats 4000000 in
theorem refBytes_any (a : Option Addr) (n c : Nat) (L : List Od) (w : World) (hL : Ops w a n c L) (hn : n ≤ 140737488355328) (hfi : (L.map Od.d).all fineB = true) (hT : (encD (L.map Od.d)).length ≤ 140737488355300) :
    Calls Try.prog 51 #[.slice a n c] w (NewBytes w (encD (L.map Od.d))) := by
  have HLN := Lib.hid hL.1
  have HFI := Lib.hid hfi
  have HSZ := Lib.hid hT
  have hrow := hL.2.1
  clear hfi hT
  have hpu0 : ∀ w', Calls Try.prog 63 #[.int .u64 (n : Int)] w' (NewBytes w' (enc n)) := fun w' => refUint_any n w' (by omega)
  go_enter Try.func51, Try.ntmps51
  go_wp2_with (first
    | (go_at_call 63; (with_reducible refine (hpu0 _).mono ?_); rintro e w2 ⟨a2, m2, c2, rfl, ho2, hx2⟩)
    | fail)
  go_loopw [3, 4] (EnRel w L) (fun _ i _ => n - (intOf i).toNat)
  case atStart =>
    refine ⟨0, m2, c2, a2, rfl, rfl, Nat.zero_le _, ?_, hx2⟩
    rw [HLN.out, List.take_zero]
    simpa [encOps] using ho2
  case round =>
    obtain ⟨j, m, oc, oa, rfl, rfl, hj, hown, hx3⟩ := hrel
    rename World => w3
    have hjn' : j ≤ n := by have := HLN.out; omega
    by_cases hjn : j < n
    rotate_left
    · obtain rfl : j = n := by omega
      have h := hown
      rw [List.take_of_length_le (by have := HLN.out; omega)] at h
      have he : enc L.length ++ encOps (L.map Od.d) = encD (L.map Od.d) := by unfold encD; rw [List.length_map]
      rw [he] at h
      have H := Lib.hid h
      clear h he hown
      go_wp2
      go_ret
      exact ⟨oa, m, oc, rfl, H.out, hx3⟩
    obtain ⟨k, hk⟩ : ∃ k, L[j]? = some k := ⟨_, List.getElem?_eq_getElem (by have := HLN.out; omega)⟩
    have hkI := (hL.2.2 k (List.mem_of_getElem? hk)).ext hx3
    have hkd : ∀ w', Ext w w' → Bytes w' k.a k.n k.c k.l := fun w' h => (hL.2.2 k (List.mem_of_getElem? hk)).1.ext h
    have HKD := Lib.hid hkd
    clear hkd
    have hkok := fine_all HFI.out hk
    have hbd := EnRel.bound hown hk
    have hkl := hkI.1.len
    obtain ⟨hkI1, hkI2, hkf, hkz⟩ := hkI
    unfold i64B at hkf hkz
    have hr1 := hrow.ext hx3
    have hts := take_map_succ hk
    have HK := Lib.hid hk
    have HKL := Lib.hid hkl
    have HTS := Lib.hid hts
    have HBD := Lib.hid hbd
    clear hk hts hbd
    rcases od_cases k hkl with ⟨c1, c2, h1, h2⟩ | ⟨c1, c2, h1, h2, h3⟩ | ⟨c1, c2, -, -⟩
    · have hcf1 : 0 ≤ k.f := by
        unfold fineB at hkok
        rw [c1, c2, Bool.true_and, Bool.or_false, decide_eq_true_eq] at hkok
        exact hkok
      have hen : k.d.enc = enc (2 * k.z.toNat + 1) ++ enc k.f.toNat := by unfold Dp.enc; rw [if_pos c1]; rfl
      have hC : ∀ w', Calls Try.prog 62 #[.agg #[.int .i64 k.f, .int .i64 k.z, .slice k.a k.n k.c]] w' (NewNone (.bool true) w') := fun w' => by have h := Copies_any k w' HKL.out; rwa [c1] at h
      obtain ⟨fn, hfn⟩ := Int.eq_ofNat_of_zero_le hcf1
      obtain ⟨zn, hzn⟩ := Int.eq_ofNat_of_zero_le (show 0 ≤ k.z by omega)
      rw [hfn, hzn, Int.toNat_natCast, Int.toNat_natCast] at hen
      rw [hfn] at hkf hcf1
      rw [hzn] at hkz h1
      have hpu1 : ∀ w', Calls Try.prog 63 #[.int .u64 (2 * (zn : Int) + 1)] w' (NewBytes w' (enc (2 * zn + 1))) := fun w' => by
        have h := refUint_any (2 * zn + 1) w' (by omega)
        rwa [show ((2 * zn + 1 : Nat) : Int) = 2 * (zn : Int) + 1 by omega] at h
      have hpu2 : ∀ w', Calls Try.prog 63 #[.int .u64 (fn : Int)] w' (NewBytes w' (enc fn)) := fun w' => refUint_any fn w' (by omega)
      have hl1 := enc_le10 (v := 2 * zn + 1) (by omega)
      have hl2 := enc_le10 (v := fn) (by omega)
      have hsum : m + (enc (2 * zn + 1)).length + (enc fn).length ≤ 140737488355300 := by
        have := HSZ.out; have := HBD.out; rw [hen, List.length_append] at this; omega
      have HSUM := Lib.hid hsum
      have HEN := Lib.hid hen
      rw [hfn, hzn] at hC
      clear hen c1 c2 hkok hkl h2 hsum
      go_wp2_with (first
          | ((with_reducible refine atSlot 18 ?_); refine wpList_of_wp rfl (owp_ix (o := ⟨some 18, _, _, _, _, _⟩) _ _ rfl Try.elO rfl hr1 j rfl rfl hjn ?_); intro b3 o3 hc3; have hrg3 := od_range HK.out hc3; clear hc3)
          | ((with_reducible refine atSlot 19 ?_); refine wpList_of_wp rfl (wp_load_mid (op := ⟨some 19, _, _, _, _, _⟩) 83 _ rfl b3 o3 rfl k.cells _ hrg3 Try.underlying83 rfl (by kernel_rfl) ?_); simp only [Od.cells])
          | (go_at_call 62; (with_reducible refine (hC _).mono ?_); rintro e w4 ⟨rfl, hx4⟩; clear hrg3; have hb4 := hx4.heap' (heap_alloc_new w3 (.cells #[.int .i64 (fn : Int), .int .i64 (zn : Int), .slice k.a k.n k.c] 83)); have E4 := (Ext.alloc' w3 (.cells #[.int .i64 (fn : Int), .int .i64 (zn : Int), .slice k.a k.n k.c] 83)).trans' hx4; have hc4 := fun j => cell_of_row w4 w3.heap.size j _ _ _ hb4)
          | (go_at_call 63; (with_reducible refine (hpu1 _).mono ?_); rintro e w5 ⟨a5, m5, c5, rfl, ho5, hx5⟩; have hb5 := hx5.heap' hb4; have E5 := E4.trans' hx5; clear hc4)
          | ((with_reducible refine atSlot 29 ?_); have hm5 := own_len ho5; refine wpList_of_wp rfl (owp_appB (w0 := w) (o := ⟨some 29, _, _, _, _, _⟩) _ _ rfl Try.elB rfl (own_ext hown E5) rfl (Bytes.of_own ho5) (by have := HSUM.out; omega) (hx3.trans' E5) ?_); intro a6 c6 w6 ho6 hx6 hk6; have hb6 := hk6 _ _ _ hb5 (by decide); have hc6 := fun j => cell_of_row w6 w3.heap.size j _ _ _ hb6; have HM5 := Lib.hid hm5; clear hm5 hb4 hb5 hb6 hk6)
          | (go_at_call 63; (with_reducible refine (hpu2 _).mono ?_); rintro e w7 ⟨a7, m7, c7, rfl, ho7, hx7⟩)
          | ((with_reducible refine atSlot 35 ?_); have hm7 := own_len ho7; refine wpList_of_wp rfl (owp_appB (w0 := w) (o := ⟨some 35, _, _, _, _, _⟩) _ _ rfl Try.elB rfl (own_ext ho6 hx7) rfl (Bytes.of_own ho7) (by have := HSUM.out; have := HM5.out; omega) (hx6.trans' hx7) ?_); intro a8 c8 w8 ho8 hx8 hk8; clear hm7 hk8 hc6)
          | fail)
      go_roundw
      case rel =>
        refine ⟨j + 1, _, _, _, by go_num, rfl, by have := HLN.out; omega, ?_, hx8⟩
        rw [HTS.out, encOps_append, encOps_one, HEN.out, ← List.append_assoc, ← List.append_assoc]
        exact ho8
      case measure => simp [intOf]; omega
    · have hen : k.d.enc = enc (2 * k.n) ++ k.l := by unfold Dp.enc; rw [c1]; simp only [Bool.false_eq_true, if_false]; rw [← hkl]; rfl
      have hC : ∀ w', Calls Try.prog 62 #[.agg #[.int .i64 k.f, .int .i64 k.z, .slice k.a k.n k.c]] w' (NewNone (.bool false) w') := fun w' => by have h := Copies_any k w' HKL.out; rwa [c1] at h
      have hpu1 : ∀ w', Calls Try.prog 63 #[.int .u64 (2 * (k.n : Int))] w' (NewBytes w' (enc (2 * k.n))) := fun w' => by
        have h := refUint_any (2 * k.n) w' (by omega)
        rwa [show ((2 * k.n : Nat) : Int) = 2 * (k.n : Int) by omega] at h
      have hl1 := enc_le10 (v := 2 * k.n) (by omega)
      have hsum : m + (enc (2 * k.n)).length + k.n ≤ 140737488355300 := by
        have := HSZ.out; have := HBD.out; rw [hen, List.length_append, hkl] at this; omega
      have HSUM := Lib.hid hsum
      have HEN := Lib.hid hen
      clear hen c1 c2 hkok hkl h1 h2 hsum
      go_wp2_with (first
          | ((with_reducible refine atSlot 18 ?_); refine wpList_of_wp rfl (owp_ix (o := ⟨some 18, _, _, _, _, _⟩) _ _ rfl Try.elO rfl hr1 j rfl rfl hjn ?_); intro b3 o3 hc3; have hrg3 := od_range HK.out hc3; clear hc3)
          | ((with_reducible refine atSlot 19 ?_); refine wpList_of_wp rfl (wp_load_mid (op := ⟨some 19, _, _, _, _, _⟩) 83 _ rfl b3 o3 rfl k.cells _ hrg3 Try.underlying83 rfl (by kernel_rfl) ?_); simp only [Od.cells])
          | (go_at_call 62; (with_reducible refine (hC _).mono ?_); rintro e w4 ⟨rfl, hx4⟩; clear hrg3; have hb4 := hx4.heap' (heap_alloc_new w3 (.cells #[.int .i64 k.f, .int .i64 k.z, .slice k.a k.n k.c] 83)); have E4 := (Ext.alloc' w3 (.cells #[.int .i64 k.f, .int .i64 k.z, .slice k.a k.n k.c] 83)).trans' hx4; have hc4 := fun j => cell_of_row w4 w3.heap.size j _ _ _ hb4)
          | (go_at_call 63; (with_reducible refine (hpu1 _).mono ?_); rintro e w5 ⟨a5, m5, c5, rfl, ho5, hx5⟩; have hb5 := hx5.heap' hb4; have E5 := E4.trans' hx5; clear hc4)
          | ((with_reducible refine atSlot 43 ?_); have hm5 := own_len ho5; refine wpList_of_wp rfl (owp_appB (w0 := w) (o := ⟨some 43, _, _, _, _, _⟩) _ _ rfl Try.elB rfl (own_ext hown E5) rfl (Bytes.of_own ho5) (by have := HSUM.out; omega) (hx3.trans' E5) ?_); intro a6 c6 w6 ho6 hx6 hk6; have hb6 := hk6 _ _ _ hb5 (by decide); have hc6 := fun j => cell_of_row w6 w3.heap.size j _ _ _ hb6; have HM5 := Lib.hid hm5; clear hm5 hb4 hb5 hb6 hk6)
          | ((with_reducible refine atSlot 47 ?_); refine wpList_of_wp rfl (owp_appB (w0 := w) (o := ⟨some 47, _, _, _, _, _⟩) _ _ rfl Try.elB rfl ho6 rfl (HKD.out _ hx6) (by have := HSUM.out; have := HM5.out; omega) hx6 ?_); intro a8 c8 w8 ho8 hx8 hk8; clear hk8 hc6)
          | fail)
      go_roundw
      case rel =>
        refine ⟨j + 1, _, _, _, by go_num, rfl, by have := HLN.out; omega, ?_, hx8⟩
        rw [HTS.out, encOps_append, encOps_one, HEN.out, ← List.append_assoc, ← List.append_assoc]
        exact ho8
      case measure => simp [intOf]; omega
    · unfold fineB at hkok
      rw [c1, c2] at hkok
      cases hkok

def RcRel (w : World) (L : List Od) (i : Value) (wr : World) : Prop :=
  ∃ j : Nat, i = .int .i64 j ∧ j ≤ L.length ∧ ((L.take j).map Od.d).all fineB = true ∧ Ext w wr

end Go.Proofs.Ytkhjeeaojlaagaa
