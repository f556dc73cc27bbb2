/-
  Layer mapping: Inverse.
-/
import Derived.Test.YtejljmikammcdaaGreatDoorMaH
namespace Go.Proofs.YtejljmikammcdaaGreatDoor
open Go.RowKit

/-- Own entries in memory. -/
structure EnsO (w : World) (B S : Nat) (a : Option Addr) (c : Nat) (L : List En) : Prop where
  own : w.ownsRow B 60 5 (.slice a L.length c) L.length (L.flatMap En.cells)
  each : ∀ k ∈ L, EnO w B S k
theorem EnsO.ext {w w' : World} {B S c : Nat} {a : Option Addr} {L : List En} (h : EnsO w B S a c L) (hx : Ext w w') : EnsO w' B S a c L := ⟨own_ext h.own hx, fun k hk => (h.each k hk).ext hx⟩
theorem EnsO.i {w : World} {B S c : Nat} {a : Option Addr} {L : List En} (h : EnsO w B S a c L) : EnsI w S a c L := ⟨Row.of_own h.own, fun k hk => (h.each k hk).i⟩
/-- mapping.Inverse: what it answers. -/
def InvO (m : List En) (T : Nat) (w : World) (en : Ending) (w' : World) : Prop :=
  ∃ (a : Option Addr) (n c e : Nat), en = .returned (.tuple #[.slice a n c, .int .i64 (e : Nat)]) ∧ (e = 0 → OkMm m ∧ ∃ out : List En, n = out.length ∧ InvOk (m.map En.E) (out.map En.E) ∧ EnsO w' w.heap.size T a c out) ∧ Ext w w'
def IvRel (w : World) (m : List En) (T g : Nat) (v19 : Value) (wr : World) : Prop :=
  ∃ (j : Nat) (out : List En) (full : Bool), v19 = .int .i64 j ∧ j ≤ m.length ∧ CoI wr w.heap.size T g out full ∧ (full = false → InvOk ((m.take j).map En.E) (out.map En.E)) ∧ Ext w wr
theorem err_slice (m : List En) (T : Nat) (w w' : World) (e : Nat) (h : e ≠ 0) (hx : Ext w w') : InvO m T w (.returned (.tuple #[.slice none 0 0, .int .i64 (e : Nat)])) w' := ⟨none, 0, 0, e, rfl, fun h0 => absurd h0 h, hx⟩
set_option maxRecDepth 100000 in
set_option maxHeartbeats 8000000 in
theorem Inverse_any (m : List En) (a : Option Addr) (c S : Nat) (w : World) (h : EnsI w S a c m) (hS : S ≤ 536870912) : Calls Tryz.prog 8 #[.slice a m.length c] w (InvO m (S + S) w) := by
  have hmx : m.length ≤ 9223372036854775807 := by have h1 := h.row.max; have h2 := h.row.le; simp only [maxLen] at h1; omega
  have HROW := Lib.hid fun w' (hx : Ext w w') => h.row.ext hx
  have HCK := Lib.hid fun (p : Option Addr) w' (hx : Ext w w') (hr : Row w' p 1 1 1 [.slice a m.length c]) => (show Calls Tryz.prog 21 #[.slice p 1 1] w' (fun en w'' => ∃ e : Nat, en = .returned (.int .i64 (e : Nat)) ∧ (e = 0 ↔ OkMm m) ∧ Ext w' w'') from
    (mcheck_any [⟨a, c, m⟩] p 1 S w' hr (fun x hx' => by
      obtain rfl : x = ⟨a, c, m⟩ := by simpa using hx'
      exact h.ext hx) (by simp) hS).mono fun en w'' hh => by
      obtain ⟨e, h1, h2, h3⟩ := hh
      exact ⟨e, h1, h2.trans (by simp), h3⟩)
  have HRG := Lib.hid fun (k : En) (hk : k ∈ m) (he : IsE k) w' (hx : Ext w w') => right_any k S w' ((h.each k hk).ext hx) (by omega) he.1 he.2.2.1 (by have := he.2.2.2; omega)
  have HPU := Lib.hid fun (g : Nat) (L : List En) (full : Bool) (k : En) (hk : k ∈ m) (he : IsE k) (a0 : Option Addr) (c0 : Nat) (H : List Pt) w' (h0 : Ext w w') (hc : CoI w' w.heap.size (S + S) g L full) (hH : PtsI w' (S + S) a0 c0 H) (hol : ∀ q ∈ H, OkP q.P) (hl : H.length ≤ 64) =>
    put_any w g L full ⟨false, k.r, k.l⟩ a0 c0 H (S + S) w' h0 hc ⟨((h.each k hk).ext h0).r.mono (Nat.le_add_right ..), ((h.each k hk).ext h0).l.mono (Nat.le_add_right ..)⟩ hH he.1.right he.1.left hol (by omega) (by omega)
  obtain ⟨post, hpo⟩ : ∃ q : Ending → World → Prop, q = InvO m (S + S) w := ⟨_, rfl⟩
  rw [← hpo]
  have HPO := Lib.hid hpo
  have HAL := Lib.hid (Ext.alloc' w (.cells #[.slice a m.length c] 24))
  have HRW := Lib.hid (Row.new w #[.slice a m.length c] 24 1 1 rfl (by decide))
  clear hpo h
  go_enter Tryz.func8, Tryz.ntmps8
  go_upto_region 2 with (first
    | (go_at_call 21; (with_reducible refine (HCK.out _ _ HAL.out HRW.out).mono ?_); rintro en w2 ⟨e, rfl, h2, hx2⟩; have H2 := Lib.hid h2; have HX2 := Lib.hid (HAL.out.trans' hx2); clear h2 hx2)
    | fail)
  by_cases he0 : e ≠ 0
  · obtain ⟨q1, q2⟩ := neI (x := (e : Int)) (y := 0) (by omega)
    go_wp2
    rw [HPO.out]
    exact err_slice _ _ _ _ _ he0 HX2.out
  replace he0 : e = 0 := by omega
  subst he0
  have HOK := Lib.hid (H2.out.1 rfl)
  have hnw := heap_alloc_new w2 (.cells #[.slice none 0 0, .bool false] 64)
  have hal := Ext.alloc' w2 (.cells #[.slice none 0 0, .bool false] 64)
  have hml : m.length ≤ 32 := HOK.out.len
  go_upto_region 5 with fail
  generalize w2.alloc (.cells #[.slice none 0 0, .bool false] 64) = w3 at hal hnw ⊢
  have HX3 := Lib.hid (HX2.out.trans' hal)
  have HNW := Lib.hid hnw
  have HSG := Lib.hid (show w.heap.size ≤ w2.heap.size from HX2.out.size)
  generalize w2.heap.size = g at HNW HSG ⊢
  clear hal hnw H2 HAL HRW HCK
  go_upto_region 6 with fail
  go_loopw [19] (IvRel w m (S + S) g) (fun i _ => m.length - (intOf i).toNat)
  case atStart => exact ⟨0, [], false, rfl, Nat.zero_le _, ⟨⟨none, 0, HNW.out, own_nil _ _ _ _⟩, (fun _ h => nomatch h), Nat.zero_le _, HSG.out⟩, fun _ => InvOk.nil, HX3.out⟩
  case round =>
    obtain ⟨j, out, full, rfl, hj, hco, hinv, hx⟩ := hrel
    rename World => wd
    have HXD := Lib.hid (show Ext w wd from hx)
    have HCO := Lib.hid hco
    have HIN := Lib.hid hinv
    clear hx hco hinv
    by_cases hjl : j < m.length
    · obtain ⟨k, hk⟩ : ∃ k, m[j]? = some k := ⟨_, List.getElem?_eq_getElem hjl⟩
      have HK := Lib.hid hk
      have HKM := Lib.hid (List.mem_of_getElem? hk)
      have HTK := Lib.hid (show (m.take (j + 1)).map En.E = (m.take j).map En.E ++ [k.E] by rw [List.take_add_one, hk]; simp)
      have HKE := Lib.hid (HOK.out.each k HKM.out)
      have HI := Lib.hid (HRG.out k HKM.out HKE.out)
      have HP := Lib.hid (fun g L full => HPU.out g L full k HKM.out HKE.out)
      have HKF := Lib.hid (show FitsH k.E.l k.E.r k.E.hs from HOK.out.fits k HKM.out)
      have HOE := Lib.hid (HOK.out.okE HKM.out)
      have hrow := HROW.out wd HXD.out
      have HPN := Lib.hid (put_new wd #[.slice none 0 0, .bool false, .slice none 0 0, .bool false, .slice none 0 0] #[.slice k.l.a k.l.n k.l.c, .bool k.l.P.rest, .slice k.r.a k.r.n k.r.c, .bool k.r.P.rest, .slice k.a k.hs.length k.c] 60)
      have HNN := heap_alloc_new wd (.cells #[.slice none 0 0, .bool false, .slice none 0 0, .bool false, .slice none 0 0] 60)
      have hr24 := (box5e HPN.out.2).2.2.2
      clear hk
      go_upto_region 9 with (first
        | ((with_reducible refine atSlot 21 ?_); refine wpList_of_wp rfl (owp_ix (o := ⟨some 21, _, _, _, _, _⟩) _ _ rfl Tryz.elEn rfl hrow j rfl rfl hjl ?_); intro b1 o1 hc2; have hd := flat_range en_five HK.out hc2; clear hc2 hrow)
        | ((with_reducible refine atSlot 22 ?_); refine wpList_of_wp rfl (wp_load_mid (op := ⟨some 22, _, _, _, _, _⟩) 60 _ rfl b1 o1 rfl [.slice k.l.a k.l.n k.l.c, .bool k.l.P.rest, .slice k.r.a k.r.n k.r.c, .bool k.r.P.rest, .slice k.a k.hs.length k.c] _ hd Tryz.underlying60 rfl (by kernel_rfl) ?_); clear hd)
        | ((with_reducible refine atStore 7 ?_); refine wpList_of_wp rfl (wp_store_row (o := ⟨none, _, _, _, _, _⟩) _ _ _ rfl wd.heap.size #[.slice k.l.a k.l.n k.l.c, .bool k.l.P.rest, .slice k.r.a k.r.n k.r.c, .bool k.r.P.rest, .slice k.a k.hs.length k.c] rfl rfl _ _ HNN (by kernel_rfl) rfl (by simp [Value.oneCell']) ?_); clear HNN)
        | ((with_reducible refine atSlot 24 ?_); refine wpList_of_wp rfl (wp_load_mid (op := ⟨some 24, _, _, _, _, _⟩) 60 _ rfl wd.heap.size 0 rfl [.slice k.l.a k.l.n k.l.c, .bool k.l.P.rest, .slice k.r.a k.r.n k.r.c, .bool k.r.P.rest, .slice k.a k.hs.length k.c] _ hr24 Tryz.underlying60 rfl (by kernel_rfl) ?_); clear hr24)
        | (go_at_call 22; (with_reducible refine (HI.out _ (HXD.out.trans' HPN.out.1)).mono ?_); rintro en w5 ⟨⟨⟨ba, bn, bc, bP⟩, da, dc, D⟩, e, rfl, h2, h3, h4, hx5⟩; have H2 := Lib.hid h2; have H3 := Lib.hid h3; have H4 := Lib.hid h4; have HX5 := Lib.hid (HPN.out.1.trans' hx5); have HE5 := Lib.hid (hx5.heap' HPN.out.2); have HP5 := Lib.hid (put_new w5 #[.slice none 0 0, .bool false, .slice none 0 0] #[.slice ba bn bc, .bool bP.rest, .slice da D.length dc] 55); have hn5 := heap_alloc_new w5 (.cells #[.slice none 0 0, .bool false, .slice none 0 0] 55); clear h2 h3 h4 hx5)
        | ((with_reducible refine atStore 8 ?_); refine wpList_of_wp rfl (wp_store_row (o := ⟨none, _, _, _, _, _⟩) _ _ _ rfl w5.heap.size #[.slice ba bn bc, .bool bP.rest, .slice da D.length dc] rfl rfl _ _ hn5 (by kernel_rfl) rfl (by simp [Value.oneCell']) ?_); clear hn5)
        | fail)
      generalize (w5.alloc (.cells #[.slice none 0 0, .bool false, .slice none 0 0] 55)).setRow w5.heap.size #[.slice ba bn bc, .bool bP.rest, .slice da D.length dc] = w6 at HP5 ⊢
      obtain ⟨hx6, hb6⟩ := HP5.out
      have HX6 := Lib.hid (HX5.out.trans' hx6)
      have HX06 := Lib.hid (HXD.out.trans' HX6.out)
      have HD := Lib.hid (H4.out.i.ext hx6)
      have HE6 := hx6.heap' HE5.out
      obtain ⟨hr34, hr32, -, -⟩ := box5e HE6
      have c37 := (box3 hb6).2.1
      generalize w5.heap.size = g5 at c37 ⊢
      generalize wd.heap.size = gd at hr34 hr32 ⊢
      clear hx6 hb6 HP5 HX5 H4 HE5 HE6
      by_cases he0 : e = 0
      · subst he0
        obtain ⟨-, hma⟩ := H3.out rfl
        have HMA := Lib.hid hma
        have HDO := Lib.hid (show ∀ q ∈ D, OkP q.P from fun q hq => right_mem HKE.out.1 HKF.out q.P (by show q.P ∈ rightH k.l.P k.r.P (k.hs.map Pt.P); rw [← hma]; exact List.mem_map_of_mem hq))
        have HDL := Lib.hid (show D.length ≤ 64 from by
          have h4 : (D.map Pt.P).length ≤ (k.hs.map Pt.P).length := by rw [hma]; exact right_len _ _ _
          rw [List.length_map, List.length_map] at h4
          have := HKE.out.2.2.2
          omega)
        clear hma H2 H3
        go_upto_region 12 with (first
          | ((with_reducible refine atSlot 32 ?_); refine wpList_of_wp rfl (wp_load_mid (op := ⟨some 32, _, _, _, _, _⟩) 39 _ rfl gd 2 rfl [.slice k.r.a k.r.n k.r.c, .bool k.r.P.rest] _ hr32 Tryz.underlying39 rfl (by kernel_rfl) ?_); clear hr32)
          | ((with_reducible refine atSlot 34 ?_); refine wpList_of_wp rfl (wp_load_mid (op := ⟨some 34, _, _, _, _, _⟩) 39 _ rfl gd 0 rfl [.slice k.l.a k.l.n k.l.c, .bool k.l.P.rest] _ hr34 Tryz.underlying39 rfl (by kernel_rfl) ?_); clear hr34)
          | (go_at_call 23; (with_reducible refine (HP.out g out full da dc D _ HX06.out (HCO.out.ext HX6.out) HD.out HDO.out HDL.out).mono ?_); rintro en w7 ⟨e, out', full', rfl, h7, hx7, -, -, h8⟩; have H7 := Lib.hid h7; have H8 := Lib.hid h8; have HX7 := Lib.hid hx7; clear h7 h8 hx7)
          | fail)
        by_cases he0 : e = 0
        · subst he0
          obtain ⟨o, hpo, hor⟩ := H8.out rfl
          have HPK := Lib.hid hpo
          have HOR := Lib.hid hor
          clear hpo hor
          go_wp2
          refine ⟨⟨_, _, _, _, _, _, _, ⟨j + 1, out', full', by go_num, hjl, H7.out, fun hf => ?_, HX7.out⟩, rfl, rfl, rfl, rfl, rfl, rfl, rfl⟩, by simp [intOf]; omega⟩
          rcases HOR.out with ⟨h1, h2⟩ | h1
          · have h3 := HIN.out (by rw [← h1]; exact hf)
            have h4 := h3.step (right_ok HOE.out HKF.out) (show PutOk k.E.r k.E.l (rightL k.E) (o.map En.E) from by
              have h5 := HPK.out
              rw [HMA.out] at h5
              exact h5)
            rw [HTK.out, h2, List.map_append]
            have h6 : (o.map En.E).toList = o.toList.map En.E := by cases o <;> rfl
            rw [h6] at h4
            exact h4
          · rw [h1] at hf; cases hf
        · obtain ⟨q1, q2⟩ := neI (x := (e : Int)) (y := 0) (by omega)
          go_wp2
          rw [HPO.out]
          exact err_slice _ _ _ _ _ he0 HX7.out
      · obtain ⟨q1, q2⟩ := neI (x := (e : Int)) (y := 0) (by omega)
        clear c37 hr32 hr34
        go_wp2
        rw [HPO.out]
        exact err_slice _ _ _ _ _ he0 HX06.out
    · have hjL : j = m.length := by omega
      go_wp2_with (first
        | (go_at_call 24; (with_reducible refine (result_any _ _ _ _ _ _ HCO.out).mono ?_); rintro en w7 ⟨rfl, a7, n7, c7, e, rfl, h7⟩; have H7 := Lib.hid h7; clear h7)
        | fail)
      rw [HPO.out]
      refine ⟨a7, n7, c7, e, rfl, fun he => ⟨HOK.out, out, ?_⟩, HXD.out⟩
      obtain ⟨h1, h2, h3⟩ := H7.out he
      have h4 := HIN.out h1
      rw [hjL, List.take_length] at h4
      refine ⟨h2, h4, ⟨by rw [h2] at h3; exact h3, HCO.out.each⟩⟩
end Go.Proofs.YtejljmikammcdaaGreatDoor
