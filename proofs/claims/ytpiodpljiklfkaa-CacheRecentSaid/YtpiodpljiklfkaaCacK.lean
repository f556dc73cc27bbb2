/-
  Caches: Put; equal lists of IDs.
-/
import Derived.Test.YtpiodpljiklfkaaCacJ
namespace Go.Proofs.Ytpiodpljiklfkaa
open Go.RowKit Go.WideMaps

theorem Cac.below {w : World} {B c room : Nat} {E : List En} {F : List Nat} (h : Cac w B c room E F) : B ≤ w.heap.size := by
  obtain ⟨m, e, N, L, h1, -, rfl⟩ := h
  have h2 := h1.base c (by simp)
  have h3 := (Array.getElem?_eq_some_iff.1 h1.box).1
  omega
theorem StB.ext {F : List Nat} {w w' : World} {a : Option Addr} {n cp : Nat} {l : List UInt8} (h : StB F w a n cp l) (hx : Ext w w') : StB F w' a n cp l := fun w2 h2 => h w2 ((Chg.of_ext hx).trans' h2)
theorem CacTo.ext {w w1 w' : World} {B c room : Nat} {F : List Nat} {E' : List En} (h : CacTo w1 B c room F E' w') (hx : Ext w w1) : CacTo w B c room F E' w' := by
  obtain ⟨F', h1, h2, h3⟩ := h
  exact ⟨F', h1, (Chg.of_ext hx).trans' h2, fun k hk => (h3 k hk).imp id fun h => Nat.le_trans hx.size h⟩

set_option maxRecDepth 100000 in
set_option maxHeartbeats 4000000 in
theorem Put38_any (B c room : Nat) (E : List En) (F : List Nat) (s : Nat) (z : Int) (ba : Option Addr) (bn bc : Nat) (l : List UInt8) (w : World) (h : Cac w B c room E F) (hb : StB F w ba bn bc l) (hbn : bn ≤ 140737488355328) :
    Calls Try.prog 21 #[.pointer (some ⟨c, 0, none⟩), .agg #[.int .u64 s, .int .i64 z], .slice ba bn bc] w (PutO w B c room F (putC room E (s, z) l)) := by
  have hln := hb.now.len
  have hx1 : Ext w (w.alloc (.cells #[.int .u64 s, .int .i64 z] 45)) := Ext.alloc' w _
  have HC1 := Lib.hid (h.ext hx1)
  have HB1 := Lib.hid (hb.ext hx1)
  have HH1 := Lib.hid (heap_alloc_new w (.cells #[.int .u64 s, .int .i64 z] 45))
  clear h hb
  by_cases h0 : bn = 0
  · have hp : putC room E (s, z) l = (E, [], 381) := by unfold putC; rw [if_pos (.inl (by omega))]
    obtain ⟨q1, q2⟩ := eqI (x := (bn : Int)) (y := 0) (by omega)
    rw [hp]
    clear h0 hp
    go_enter Try.func21, Try.ntmps21
    go_wp2
    generalize w.alloc (.cells #[.int .u64 s, .int .i64 z] 45) = w1 at hx1 HC1 HB1 HH1 ⊢
    have E1 := Ext.drew' w1
    refine wp_region_e [] (.qs [0, 1, 2, 3, 4, 6] (.l 5 (.qs [7, 8] .nil))) (by kernel_rfl) (by kernel_rfl) ?_
    iterate 4 ((refine wpY_q rfl rfl _ (fun w' hx' => by go_simp; try rfl) ?_; go_simp))
    iterate 2 ((refine wpY_skip rfl rfl ?_; go_simp))
    refine wpY_lskip rfl rfl ?_
    go_simp
    iterate 2 (first | ((refine wpY_q rfl rfl _ (fun w' hx' => by go_simp; try rfl) ?_; go_simp)) | ((refine wpY_skip rfl rfl ?_; go_simp)))
    refine wpY_nil ?_
    go_wp2
    go_ret2
    exact ⟨none, 0, 0, rfl, rfl, own_nil _ _ _ _, F, HC1.out.ext E1, Chg.of_ext (hx1.trans' E1), fun k hk => .inl hk⟩
  obtain ⟨q1, q2⟩ := neI (x := (bn : Int)) (y := 0) (by omega)
  have hbp : 0 < bn := by omega
  by_cases he : idOf l = (s, z)
  rotate_left
  · have hp : putC room E (s, z) l = (E, [], 381) := by unfold putC; rw [if_pos (.inr he)]
    rw [hp]
    have hor : ((fp l : Int) == (s : Int)) = false ∨ ((fp l : Int) == (s : Int)) = true ∧ ((bn : Int) == z) = false := by
      by_cases h1 : fp l = s
      · refine .inr ⟨by simp [h1], ?_⟩
        by_cases h2 : (bn : Int) = z
        · exact absurd (Prod.ext h1 (by show (l.length : Int) = z; rw [hln]; exact h2)) he
        · simpa using h2
      · exact .inl (by simp; omega)
    clear h0 hp he
    rcases hor with h3 | ⟨h3, h4⟩
    · go_enter Try.func21, Try.ntmps21
      go_wp2
      generalize w.alloc (.cells #[.int .u64 s, .int .i64 z] 45) = w1 at hx1 HC1 HB1 HH1 ⊢
      have E1 := Ext.drew' w1
      refine wp_region_e [] (.qs [0, 1, 2, 3, 4, 6] (.l 5 (.qs [7, 8] .nil))) (by kernel_rfl) (by kernel_rfl) ?_
      iterate 5 ((refine wpY_q rfl rfl _ (fun w' hx' => by go_simp; try rfl) ?_; go_simp))
      refine wpY_ld rfl rfl (.tmp 4) rfl w.heap.size 0 rfl [.int .u64 s, .int .i64 z] _ (fun w' hh => range_of_heap2 (Ext.heap' hh HH1.out)) Try.underlying45 rfl (by kernel_rfl) ?_
      refine wpY_l rfl rfl ?_
      go_simp
      refine (Of_any ba bn bc l _ (HB1.out.now.ext E1) hbn).mono ?_
      rintro en w2 ⟨rfl, hx2⟩
      have E2 := E1.trans' hx2
      refine ⟨E2, ?_⟩
      iterate 2 ((refine wpY_q rfl rfl _ (fun w' hx' => by go_simp; try rfl) ?_; go_simp))
      refine wpY_nil ?_
      go_wp2
      go_ret2
      exact ⟨none, 0, 0, rfl, rfl, own_nil _ _ _ _, F, HC1.out.ext E2, Chg.of_ext (hx1.trans' E2), fun k hk => .inl hk⟩
    · go_enter Try.func21, Try.ntmps21
      go_wp2
      generalize w.alloc (.cells #[.int .u64 s, .int .i64 z] 45) = w1 at hx1 HC1 HB1 HH1 ⊢
      have E1 := Ext.drew' w1
      refine wp_region_e [] (.qs [0, 1, 2, 3, 4, 6] (.l 5 (.qs [7, 8] .nil))) (by kernel_rfl) (by kernel_rfl) ?_
      iterate 5 ((refine wpY_q rfl rfl _ (fun w' hx' => by go_simp; try rfl) ?_; go_simp))
      refine wpY_ld rfl rfl (.tmp 4) rfl w.heap.size 0 rfl [.int .u64 s, .int .i64 z] _ (fun w' hh => range_of_heap2 (Ext.heap' hh HH1.out)) Try.underlying45 rfl (by kernel_rfl) ?_
      refine wpY_l rfl rfl ?_
      go_simp
      refine (Of_any ba bn bc l _ (HB1.out.now.ext E1) hbn).mono ?_
      rintro en w2 ⟨rfl, hx2⟩
      have E2 := E1.trans' hx2
      refine ⟨E2, ?_⟩
      iterate 2 ((refine wpY_q rfl rfl _ (fun w' hx' => by go_simp; try rfl) ?_; go_simp))
      refine wpY_nil ?_
      go_wp2
      go_ret2
      exact ⟨none, 0, 0, rfl, rfl, own_nil _ _ _ _, F, HC1.out.ext E2, Chg.of_ext (hx1.trans' E2), fun k hk => .inl hk⟩
  · have hp : putC room E (s, z) l = putF room E (s, z) l := by unfold putC; rw [if_neg (by rintro (h | h); omega; exact h he)]
    rw [hp]
    have h3 : ((fp l : Int) == (s : Int)) = true := by
      have := congrArg Prod.fst he
      have h : fp l = s := this
      simp [h]
    have h4 : ((bn : Int) == z) = true := by
      have h : (l.length : Int) = z := congrArg Prod.snd he
      rw [← hln, h]
      simp
    have HE := Lib.hid he
    clear h0 hp he
    go_enter Try.func21, Try.ntmps21
    go_wp2
    generalize w.alloc (.cells #[.int .u64 s, .int .i64 z] 45) = w1 at hx1 HC1 HB1 HH1 ⊢
    have E1 := Ext.drew' w1
    refine wp_region_e [] (.qs [0, 1, 2, 3, 4, 6] (.l 5 (.qs [7, 8] .nil))) (by kernel_rfl) (by kernel_rfl) ?_
    iterate 5 ((refine wpY_q rfl rfl _ (fun w' hx' => by go_simp; try rfl) ?_; go_simp))
    refine wpY_ld rfl rfl (.tmp 4) rfl w.heap.size 0 rfl [.int .u64 s, .int .i64 z] _ (fun w' hh => range_of_heap2 (Ext.heap' hh HH1.out)) Try.underlying45 rfl (by kernel_rfl) ?_
    refine wpY_l rfl rfl ?_
    go_simp
    refine (Of_any ba bn bc l _ (HB1.out.now.ext E1) hbn).mono ?_
    rintro en w2 ⟨rfl, hx2⟩
    have E2 := E1.trans' hx2
    refine ⟨E2, ?_⟩
    iterate 2 ((refine wpY_q rfl rfl _ (fun w' hx' => by go_simp; try rfl) ?_; go_simp))
    refine wpY_nil ?_
    have hid2 := range_of_heap2 (Ext.heap' E2 HH1.out)
    have HC2 := Lib.hid (HC1.out.ext E2)
    have HPU := Lib.hid (put38_any B c room E F s z ba bn bc l w2 HC2.out (HB1.out.ext E2) HE.out hbp hbn HC2.out.below)
    have HX2 := Lib.hid (hx1.trans' E2)
    clear h3 h4
    go_wp2_with (first
      | ((with_reducible refine atSlot 18 ?_); refine wpList_of_wp rfl (wp_load_mid (op := ⟨some 18, _, _, _, _, _⟩) 45 _ rfl w.heap.size 0 rfl [.int .u64 s, .int .i64 z] _ hid2 Try.underlying45 rfl (by kernel_rfl) ?_); clear hid2)
      | (go_at_call 41; (with_reducible refine HPU.out.mono ?_); rintro en w3 ⟨a3, n3, c3, rfl, hn3, ho3, hC3⟩; have HN3 := Lib.hid hn3; clear hn3)
      | fail)
    go_ret2
    exact ⟨a3, n3, c3, rfl, HN3.out, own_base ho3 HX2.out.size, hC3.ext HX2.out⟩

theorem id_get {l : List (Nat × Int)} {i : Nat} {k : Nat × Int} (h : l[i]? = some k) : ∀ j, j < 2 → (l.flatMap idCells)[i * 2 + j]? = (idCells k)[j]? := by
  induction l generalizing i with
  | nil => cases h
  | cons x l ih =>
    intro j hj
    rw [List.flatMap_cons]
    cases i with
    | zero =>
      cases h
      rw [Nat.zero_mul, Nat.zero_add, List.getElem?_append_left (by simp [idCells]; omega)]
    | succ i =>
      rw [List.getElem?_append_right (by simp [idCells]; omega), ← ih (i := i) (by simpa using h) j hj]
      congr 1
      simp [idCells]
      omega
theorem id_range {w : World} {b o i : Nat} {l : List (Nat × Int)} {k : Nat × Int} (hk : l[i]? = some k) (hc : ∀ j, j < 2 → w.cell? ⟨b, o + j, none⟩ = (l.flatMap idCells)[i * 2 + j]?) : w.rangeAt b o [.int .u64 k.1, .int .i64 k.2] := fun j v hj => by
  have hlt : j < 2 := (List.getElem?_eq_some_iff.1 hj).1
  exact (hc j hlt).trans ((id_get hk j hlt).trans hj)

set_option maxRecDepth 100000 in
set_option maxHeartbeats 2000000 in
theorem SameIDs_any (a1 : Option Addr) (n c1 : Nat) (a2 : Option Addr) (c2 : Nat) (l : List (Nat × Int)) (w : World) (h1 : Row w a1 n c1 2 (l.flatMap idCells)) (h2 : Row w a2 n c2 2 (l.flatMap idCells)) (hn : l.length = n) (hn2 : n ≤ 1000000000000) :
    Calls Try.prog 26 #[.slice a1 n c1, .slice a2 n c2] w (NewNone (.bool true) w) := by
  have HL := Lib.hid hn
  clear hn
  go_enter Try.func26, Try.ntmps26
  go_wp2
  go_loopw [5] (SameRel w n) (fun i _ => n - (intOf i).toNat)
  case atStart => exact ⟨0, rfl, by omega, Below.refl _ _⟩
  case round =>
    obtain ⟨j, rfl, hj, hx⟩ := hrel
    rename World => w1
    by_cases hjn : j < n
    · obtain ⟨k, hk⟩ : ∃ k, l[j]? = some k := ⟨_, List.getElem?_eq_getElem (by have := HL.out; omega)⟩
      have hr1 := h1.ext hx
      have hr2 := h2.ext hx
      have HK := Lib.hid hk
      clear hk
      go_wp2
      refine wp_region_e [] (.qs [0, 1, 2, 3, 4, 5, 6, 7, 8] .nil) (by kernel_rfl) (by kernel_rfl) ?_
      iterate 2 ((refine wpY_q rfl rfl _ (fun w' hx' => by go_simp; try rfl) ?_; go_simp))
      refine wpY_ix rfl rfl (.tmp 17) (.tmp 18) rfl Try.elId rfl (fun w' h => hr1.ext h) j rfl rfl hjn ?_
      intro b3 o3 hc3
      refine wpY_ld rfl rfl (.tmp 19) rfl b3 o3 rfl [.int .u64 k.1, .int .i64 k.2] _ (fun w' h => id_range HK.out (fun i hi => hc3 i hi w' h)) Try.underlying45 rfl (by kernel_rfl) ?_
      iterate 2 ((refine wpY_q rfl rfl _ (fun w' hx' => by go_simp; try rfl) ?_; go_simp))
      refine wpY_ix rfl rfl (.tmp 21) (.tmp 22) rfl Try.elId rfl (fun w' h => hr2.ext h) j rfl rfl hjn ?_
      intro b4 o4 hc4
      refine wpY_ld rfl rfl (.tmp 23) rfl b4 o4 rfl [.int .u64 k.1, .int .i64 k.2] _ (fun w' h => id_range HK.out (fun i hi => hc4 i hi w' h)) Try.underlying45 rfl (by kernel_rfl) ?_
      clear hc3 hc4
      ((refine wpY_q rfl rfl _ (fun w' hx' => by go_simp; try rfl) ?_; go_simp))
      refine wpY_nil ?_
      go_wp2
      go_roundw
      case rel => exact ⟨j + 1, by go_num, by omega, hx.trans' (Ext.drew' _)⟩
      case measure => simp [intOf]; omega
    · have hd : decide (j < n) = false := by simpa using hjn
      go_wp2
      go_ret
      exact ⟨rfl, hx⟩
end Go.Proofs.Ytpiodpljiklfkaa
