/-
  Apply, the program's.
-/
import Derived.Test.YtkhjeeaojlaagaaDelK
import Derived.Test.YtkhjeeaojlaagaaMath1
namespace Go.Proofs.Ytkhjeeaojlaagaa
open Go.RowKit

theorem appD_append (b : List UInt8) (A B : List Dp) : appD b (A ++ B) = appD b A ++ appD b B := by simp [appD]
theorem appD_one (b : List UInt8) (o : Dp) : appD b [o] = o.app b := by simp [appD]
theorem app_length {b : List UInt8} {o : Dp} (h : o.ok b.length) : (o.app b).length = o.size := by rw [← atoms_read h, List.length_map, atoms_length]
theorem appD_length {b : List UInt8} {os : List Dp} (h : ∀ o ∈ os, o.ok b.length) : (appD b os).length = sizeD os := by rw [← atomsD_read h, List.length_map, atomsD_length]
theorem app_room {b : List UInt8} {L : List Od} {j : Nat} {k : Od} (hk : L[j]? = some k) (h : ∀ o ∈ L.map Od.d, o.ok b.length) : (appD b ((L.take j).map Od.d)).length + k.d.size ≤ sizeD (L.map Od.d) := by
  have h1 : L.map Od.d = (L.take (j + 1)).map Od.d ++ (L.drop (j + 1)).map Od.d := by rw [← List.map_append, List.take_append_drop]
  rw [appD_length (fun o ho => h o (by rw [h1, take_map_succ hk]; exact List.mem_append_left _ (List.mem_append_left _ ho))), h1, take_map_succ hk]
  simp [sizeD]
def ApRel (w : World) (b : List UInt8) (L : List Od) (out i : Value) (wr : World) : Prop :=
  ∃ (j m c : Nat) (a : Option Addr), i = .int .i64 j ∧ out = .slice a m c ∧ j ≤ L.length ∧ wr.ownsRow w.heap.size 5 1 (.slice a m c) m ((appD b ((L.take j).map Od.d)).map u8) ∧ Ext w wr

set_option maxRecDepth 100000 in
set_option maxHeartbeats 4000000 in
theorem Apply_any (a1 : Option Addr) (n1 c1 : Nat) (b : List UInt8) (a : Option Addr) (n c : Nat) (L : List Od) (w : World) (hb : Bytes w a1 n1 c1 b) (hL : Ops w a n c L) (hn1 : n1 ≤ 140737488355328) (hn : n ≤ 140737488355328) {l : List UInt8} {er : Int} (hr : apRes b (L.map Od.d) = (l, er)) :
    Calls Try.prog 56 #[.slice a1 n1 c1, .slice a n c] w (BytesRes w l er) := by
  obtain ⟨n0, e0, hck⟩ : ∃ n0 e0, ckRes b.length (L.map Od.d) = (n0, e0) := ⟨_, _, rfl⟩
  unfold apRes at hr
  rw [hck] at hr
  simp only at hr
  have hck1 := hck
  rw [hb.len] at hck1
  by_cases he : e0 = 0
  rotate_left
  · rw [if_neg he] at hr
    cases hr
    obtain ⟨q1, q2⟩ := neI he
    have HCK := Lib.hid hck1
    clear hck hck1 he
    go_enter Try.func56, Try.ntmps56
    go_wp2_with (go_at_call 45; (with_reducible refine (Check_any n1 a n c L _ hL hn HCK.out).mono ?_); rintro e w1 ⟨rfl, hx1⟩)
    go_ret2
    exact ⟨none, 0, 0, rfl, own_nil _ _ _ _, hx1⟩
  subst he
  simp only [if_true, Prod.mk.injEq] at hr
  obtain ⟨rfl, rfl⟩ := hr
  obtain ⟨hok, hn0, hsz, hb0, hb1, hcnt⟩ := ckRes_ok hck
  obtain ⟨S, hS⟩ : ∃ S, S = sizeD (L.map Od.d) := ⟨_, rfl⟩
  rw [← hS] at hn0 hsz
  subst hn0
  have hn1b : n1 ≤ 1048576 := by rw [hb.len] at hb1; omega
  rw [List.length_map, hL.1] at hcnt
  have HCK := Lib.hid hck1
  have HBL := Lib.hid hb.len
  have HLN := Lib.hid hL.1
  have HOK := Lib.hid hok
  have HS := Lib.hid hS
  have hrow := hL.2.1
  clear hck hck1 hok hS hb0 hb1
  have TC := Try.ta.cc
  have TL := Try.ta.lc
  have TT := Try.ta.ll
  go_enter Try.func56, Try.ntmps56
  go_wp2_with (first
    | (go_at_call 45; (with_reducible refine (Check_any n1 a n c L _ hL hn HCK.out).mono ?_); rintro e w1 ⟨rfl, hx1⟩)
    | ((with_reducible refine atSlot 24 ?_); refine wpList_mk (o := ⟨some 24, _, _, _, _, _⟩) rfl _ _ rfl Try.elB 0 S rfl rfl rfl rfl (Nat.zero_le _) (by omega) (by unfold maxLen; omega) ?_; intro g2 w2 ho2 hx2)
    | fail)
  go_loopw [8, 27] (ApRel w b L) (fun _ i _ => n - (intOf i).toNat)
  case atStart =>
    refine ⟨0, 0, S, some ⟨g2, 0, none⟩, rfl, rfl, Nat.zero_le _, ?_, hx1.trans' hx2⟩
    have h := own_base ho2 hx1.size
    rw [List.take_zero]
    simpa [appD, zeros, madeCells] using h
  case round =>
    obtain ⟨j, m, oc, oa, rfl, rfl, hj, hown, hx3⟩ := hrel
    rename World => w3
    have hjn' : j ≤ n := by have := HLN.out; omega
    by_cases hjn : j < n
    rotate_left
    · obtain rfl : j = n := by omega
      have h := hown
      rw [List.take_of_length_le (by have := HLN.out; omega)] at h
      have H := Lib.hid h
      clear h hown
      go_wp2
      go_ret2
      exact ⟨oa, m, oc, rfl, H.out, hx3⟩
    obtain ⟨k, hk⟩ : ∃ k, L[j]? = some k := ⟨_, List.getElem?_eq_getElem (by have := HLN.out; omega)⟩
    have hkI := (hL.2.2 k (List.mem_of_getElem? hk)).ext hx3
    have hkd : ∀ w', Ext w w' → Bytes w' k.a k.n k.c k.l := fun w' h => (hL.2.2 k (List.mem_of_getElem? hk)).1.ext h
    have HKD := Lib.hid hkd
    clear hkd
    have hkok := HOK.out k.d (List.mem_map_of_mem (List.mem_of_getElem? hk))
    have hbd := app_room hk HOK.out
    have hbd2 : m + k.d.size ≤ S := by have := own_len hown; have := HS.out; omega
    have happ := app_length hkok
    have hkl := hkI.1.len
    obtain ⟨hkI1, hkI2, hkf, hkz⟩ := hkI
    have hr1 := hrow.ext hx3
    have hts := take_map_succ hk
    have HK := Lib.hid hk
    have HKL := Lib.hid hkl
    have HTS := Lib.hid hts
    clear hk hts hbd hkf hkz
    obtain ⟨pv, hpv⟩ : ∃ pv, pv = partV k := ⟨_, rfl⟩
    have hpc := partOf_any k
    rw [← hpv] at hpc
    unfold partV at hpv
    have HPC := Lib.hid hpc
    clear hpc
    by_cases c1 : k.d.copies = true
    · rw [if_pos c1] at hpv
      subst hpv
      have hcf : 0 ≤ k.f ∧ k.f + k.z ≤ b.length ∧ 1 ≤ k.z := by
        rcases hkok with ⟨_, h1, h2⟩ | h
        · simp only [Dp.copies, Bool.and_eq_true, decide_eq_true_eq] at c1
          exact ⟨h1, h2, c1.1⟩
        · rw [Dp.copies_not_literal c1] at h; cases h
      obtain ⟨hcf1, hcf2, hcf3⟩ := hcf
      have hen : k.d.app b = (b.drop k.f.toNat).take k.z.toNat := by unfold Dp.app; rw [if_pos c1]; rfl
      have hsz1 : k.d.size = k.z.toNat := by unfold Dp.size; rw [if_pos c1]; rfl
      obtain ⟨fn, hfn⟩ := Int.eq_ofNat_of_zero_le hcf1
      obtain ⟨zn, hzn⟩ := Int.eq_ofNat_of_zero_le (show 0 ≤ k.z by omega)
      rw [hzn, Int.toNat_natCast] at hsz1
      rw [hfn, hzn, Int.toNat_natCast, Int.toNat_natCast] at hen
      rw [hfn] at hcf1 hcf2
      rw [hzn] at hcf2 hcf3
      have hfz : fn + zn ≤ n1 := by have := HBL.out; omega
      have hmz : m + zn ≤ S := by omega
      have HEN := Lib.hid hen
      rw [hfn, hzn] at HPC
      clear hen c1 hkok hkl hsz1 happ hcf2 hbd2
      go_wp2_with (first
        | ((with_reducible refine atSlot 29 ?_); refine wpList_of_wp rfl (owp_ix (o := ⟨some 29, _, _, _, _, _⟩) _ _ rfl Try.elO rfl hr1 j rfl rfl hjn ?_); intro b3 o3 hc3; have hrg3 := od_range HK.out hc3; clear hc3)
        | ((with_reducible refine atSlot 30 ?_); refine wpList_of_wp rfl (wp_load_mid (op := ⟨some 30, _, _, _, _, _⟩) 83 _ rfl b3 o3 rfl k.cells _ hrg3 Try.underlying83 rfl (by kernel_rfl) ?_); simp only [Od.cells])
        | (go_at_call 47; (with_reducible refine (HPC.out _ HKL.out).mono ?_); rintro e w4 ⟨rfl, hx4⟩; clear hrg3)
        | ((with_reducible refine atSlot 45 ?_); have E4 := (Ext.alloc' w3 (.cells #[.int .i64 (fn : Int), .int .i64 (zn : Int), .slice k.a k.n k.c] 83)).trans' (hx4.trans' (Ext.alloc' w4 (.cells #[.int .i64 (fn : Int), .int .i64 (zn : Int)] 73))); refine wpList_of_wp rfl (owp_sl_lh (o := ⟨some 45, _, _, _, _, _⟩) _ _ _ rfl Try.elB rfl (hb.ext (hx3.trans' E4)).row fn zn rfl rfl rfl rfl hfz ?_); intro a5 hr5; have hb5 := Bytes.sub hr5; clear hr5)
        | ((with_reducible refine atSlot 46 ?_); refine wpList_of_wp rfl (owp_appB (w0 := w) (o := ⟨some 46, _, _, _, _, _⟩) _ _ rfl Try.elB rfl (own_ext hown E4) rfl hb5 (by omega) (hx3.trans' E4) ?_); intro a6 c6 w6 ho6 hx6 hk6; clear hk6)
        | fail)
      go_roundw
      case rel =>
        refine ⟨j + 1, _, _, _, by go_num, rfl, by have := HLN.out; omega, ?_, hx6⟩
        rw [HTS.out, appD_append, appD_one, HEN.out]
        exact ho6
      case measure => simp [intOf]; omega
    · have c2' : k.d.copies = false := by simpa using c1
      have hlit : k.d.literal = true := by
        rcases hkok with ⟨h, _⟩ | h
        · exact absurd h c1
        · exact h
      rw [if_neg c1, if_pos hlit] at hpv
      subst hpv
      have hen : k.d.app b = k.l := by unfold Dp.app; rw [c2']; rfl
      have hkn : m + k.n ≤ S := by
        have h1 : k.d.size = k.n := by unfold Dp.size; rw [c2']; exact hkl
        omega
      have HEN := Lib.hid hen
      clear hen c1 c2' hlit hkok hkl happ hbd2
      go_wp2_with (first
        | ((with_reducible refine atSlot 29 ?_); refine wpList_of_wp rfl (owp_ix (o := ⟨some 29, _, _, _, _, _⟩) _ _ rfl Try.elO rfl hr1 j rfl rfl hjn ?_); intro b3 o3 hc3; have hrg3 := od_range HK.out hc3; clear hc3)
        | ((with_reducible refine atSlot 30 ?_); refine wpList_of_wp rfl (wp_load_mid (op := ⟨some 30, _, _, _, _, _⟩) 83 _ rfl b3 o3 rfl k.cells _ hrg3 Try.underlying83 rfl (by kernel_rfl) ?_); simp only [Od.cells])
        | (go_at_call 47; (with_reducible refine (HPC.out _ HKL.out).mono ?_); rintro e w4 ⟨rfl, hx4⟩; clear hrg3)
        | ((with_reducible refine atSlot 53 ?_); have E4 := (Ext.alloc' w3 (.cells #[.int .i64 k.f, .int .i64 k.z, .slice k.a k.n k.c] 83)).trans' (hx4.trans' (Ext.alloc' w4 (.cells #[.slice k.a k.n k.c] 77))); refine wpList_of_wp rfl (owp_appB (w0 := w) (o := ⟨some 53, _, _, _, _, _⟩) _ _ rfl Try.elB rfl (own_ext hown E4) rfl (HKD.out _ (hx3.trans' E4)) (by omega) (hx3.trans' E4) ?_); intro a6 c6 w6 ho6 hx6 hk6; clear hk6)
        | fail)
      go_roundw
      case rel =>
        refine ⟨j + 1, _, _, _, by go_num, rfl, by have := HLN.out; omega, ?_, hx6⟩
        rw [HTS.out, appD_append, appD_one, HEN.out]
        exact ho6
      case measure => simp [intOf]; omega
end Go.Proofs.Ytkhjeeaojlaagaa
