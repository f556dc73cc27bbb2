/-
  Find of both sides; the search by halves.
-/
import Derived.Test.YtncdcpaelecikaaPackZ
import Derived.Test.YtncdcpaelecikaaMathR
namespace Go.Proofs.Ytncdcpaelecikaa
open Go.RowKit

/-! ### Plain laws -/
def isB (t : Nat) (y : Int) (k : Ck) : Bool := decide (k.s = t ∧ k.z = y)
def cmpK (t : Nat) (y : Int) (k : Ck) : Int := orI (cmpI k.s t) (cmpI k.z y)
theorem cmpK_neg (t : Nat) (y : Int) (k : Ck) : cmpK t y k < 0 ↔ k.s < t ∨ k.s = t ∧ k.z < y := by
  unfold cmpK orI cmpI
  by_cases h1 : (k.s : Int) < t
  · rw [if_pos h1, if_neg (by decide)]; omega
  · rw [if_neg h1]
    by_cases h2 : (t : Int) < k.s
    · rw [if_pos h2, if_neg (by decide)]; omega
    · rw [if_neg h2, if_pos rfl]
      by_cases h3 : k.z < y
      · rw [if_pos h3]; omega
      · rw [if_neg h3]; split <;> omega
theorem cmpK_zero (t : Nat) (y : Int) (k : Ck) : cmpK t y k = 0 ↔ k.s = t ∧ k.z = y := by
  unfold cmpK orI cmpI
  by_cases h1 : (k.s : Int) < t
  · rw [if_pos h1, if_neg (by decide)]; omega
  · rw [if_neg h1]
    by_cases h2 : (t : Int) < k.s
    · rw [if_pos h2, if_neg (by decide)]; omega
    · rw [if_neg h2, if_pos rfl]
      by_cases h3 : k.z < y
      · rw [if_pos h3]; omega
      · rw [if_neg h3]; split <;> omega
def Up (L : List Ck) : Prop := L.Pairwise fun x y => lessB x y = true
theorem Up.at_ {L : List Ck} (h : Up L) {i j : Nat} {x y : Ck} (hi : L[i]? = some x) (hj : L[j]? = some y) (hij : i < j) : x.s < y.s ∨ x.s = y.s ∧ x.z < y.z := by
  obtain ⟨h1, rfl⟩ := List.getElem?_eq_some_iff.1 hi
  obtain ⟨h2, rfl⟩ := List.getElem?_eq_some_iff.1 hj
  have := List.pairwise_iff_getElem.1 h i j h1 h2 hij
  simpa only [lessB, decide_eq_true_eq] using this
theorem Up.one {L : List Ck} (h : Up L) {x y : Ck} (hx : x ∈ L) (hy : y ∈ L) (hs : x.s = y.s) (hz : x.z = y.z) : x = y := by
  obtain ⟨i, hi⟩ := List.getElem?_of_mem hx
  obtain ⟨j, hj⟩ := List.getElem?_of_mem hy
  rcases Nat.lt_trichotomy i j with hij | rfl | hij
  · have := h.at_ hi hj hij; omega
  · rw [hi] at hj; exact Option.some.inj hj
  · have := h.at_ hj hi hij; omega
theorem Up.of_d {L : List Ck} (h : Up (L.map Ck.d)) : Up L := by
  unfold Up at *
  rw [List.pairwise_map] at h
  exact h
/-- The bytes of the chunk with an ID, or the error. -/
def findB (S : List Ck) (t : Nat) (y : Int) : List UInt8 × Int :=
  match S.find? (isB t y) with
  | some k => (k.l, 0)
  | none => ([], 295)
theorem findB_yes {L : List Ck} (h : Up L) {t : Nat} {y : Int} {k : Ck} (hk : k ∈ L) (hs : k.s = t) (hz : k.z = y) : findB (L.map Ck.d) t y = (k.l, 0) := by
  unfold findB
  have hup : Up (L.map Ck.d) := by unfold Up at *; rw [List.pairwise_map]; exact h
  have hm : k.d ∈ L.map Ck.d := List.mem_map_of_mem hk
  cases hf : (L.map Ck.d).find? (isB t y) with
  | none =>
    have := List.find?_eq_none.1 hf k.d hm
    exact absurd (by simp only [isB, Ck.d, dk]; exact decide_eq_true ⟨hs, hz⟩) this
  | some x =>
    have hp := List.find?_some hf
    simp only [isB, decide_eq_true_eq] at hp
    have := hup.one (List.mem_of_find?_eq_some hf) hm (by rw [hp.1]; exact hs.symm) (by rw [hp.2]; exact hz.symm)
    rw [this]; rfl
theorem findB_no {L : List Ck} {t : Nat} {y : Int} (h : ∀ k ∈ L, ¬ (k.s = t ∧ k.z = y)) : findB (L.map Ck.d) t y = ([], 295) := by
  unfold findB
  rw [List.find?_eq_none.2 (fun x hx => by
    obtain ⟨k, hk, rfl⟩ := List.mem_map.1 hx
    simp only [isB, Ck.d, dk]
    exact fun hd => h k hk (of_decide_eq_true hd))]
/-- What Find answers. -/
def findRes (l : List UInt8) (t : Nat) (y : Int) : List UInt8 × Int := if (decRes l).2 ≠ 0 then ([], (decRes l).2) else findB (decRes l).1 t y
def FindIs (w : World) (b : List UInt8) (er : Int) (e : Ending) (w' : World) : Prop :=
  ∃ (a : Option Addr) (n c : Nat), e = .returned (.tuple #[.slice a n c, .int .i64 er]) ∧ Bytes w' a n c b ∧ Ext w w'
def FindPost (w : World) (l : List UInt8) (t : Nat) (y : Int) (e : Ending) (w' : World) : Prop := FindIs w (findRes l t y).1 (findRes l t y).2 e w'
theorem FindPost.is {w w' : World} {l b : List UInt8} {t : Nat} {y er : Int} {e : Ending} (h : FindPost w l t y e w') (hr : findRes l t y = (b, er)) : FindIs w b er e w' := by
  unfold FindPost at h; rw [hr] at h; exact h
theorem FindPost.no {w w' : World} {l : List UInt8} {t : Nat} {y er : Int} (hr : findRes l t y = ([], er)) (hx : Ext w w') : FindPost w l t y (.returned (.tuple #[.slice none 0 0, .int .i64 er])) w' := by
  unfold FindPost; rw [hr]; exact ⟨none, 0, 0, rfl, Bytes.nil _, hx⟩
theorem FindPost.yes {w w' : World} {l b : List UInt8} {t n c : Nat} {a : Option Addr} {y : Int} (hr : findRes l t y = (b, 0)) (hb : Bytes w' a n c b) (hx : Ext w w') : FindPost w l t y (.returned (.tuple #[.slice a n c, .int .i64 0])) w' := by
  unfold FindPost; rw [hr]; exact ⟨a, n, c, rfl, hb, hx⟩

/-! ### The walks -/
theorem range_of_heap2 {w : World} {g : Nat} {x y : Value} {t : TypeId} {fr : Nat × Nat} (h : w.heap[g]? = some (.cells #[x, y] t fr)) : w.rangeAt g 0 [x, y] := fun j v hj => by
  rw [Nat.zero_add, cell_of_row _ _ _ _ _ _ h, ← hj]; simp
set_option maxRecDepth 100000 in
set_option maxHeartbeats 1000000 in
theorem FindCmp_any (s t : Nat) (z y : Int) (a : Option Addr) (n c : Nat) (w : World) :
    Calls Try.prog 50 #[.agg #[.int .u64 s, .int .i64 z, .slice a n c], .agg #[.int .u64 t, .int .i64 y]] w (NewNone (.int .i64 (orI (cmpI s t) (cmpI z y))) w) := by
  go_enter Try.func50, Try.ntmps50
  go_wp2_with (go_at_call 32; (with_reducible refine (compareIDs_any s t z y _).mono ?_); rintro e w1 ⟨rfl, hx1⟩)
  go_ret
  exact ⟨rfl, ((Ext.alloc' _ _).trans' (Ext.alloc' _ _)).trans' hx1⟩

def BsPost (w : World) (L : List Ck) (t : Nat) (y : Int) (e : Ending) (w' : World) : Prop :=
  ∃ (i : Nat) (f : Bool), e = .returned (.tuple #[.int .i64 i, .bool f]) ∧ (f = true → ∃ k, L[i]? = some k ∧ k.s = t ∧ k.z = y) ∧ (f = false → ∀ k ∈ L, ¬ (k.s = t ∧ k.z = y)) ∧ Ext w w'
def BsRel (w : World) (L : List Ck) (t : Nat) (y : Int) (i j : Value) (wr : World) : Prop :=
  ∃ p q : Nat, i = .int .i64 p ∧ j = .int .i64 q ∧ p ≤ q ∧ q ≤ L.length ∧ (∀ r k, r < p → L[r]? = some k → cmpK t y k < 0) ∧ (∀ r k, q ≤ r → L[r]? = some k → 0 ≤ cmpK t y k) ∧ Ext w wr
theorem bs_none {L : List Ck} {t p : Nat} {y : Int} (hU : Up L) (hl : ∀ r k, r < p → L[r]? = some k → cmpK t y k < 0) (hr : ∀ r k, p ≤ r → L[r]? = some k → 0 ≤ cmpK t y k) (hp : ∀ k, L[p]? = some k → ¬ cmpK t y k = 0) : ∀ k ∈ L, ¬ (k.s = t ∧ k.z = y) := fun k hk hkk => by
  obtain ⟨r, hr'⟩ := List.getElem?_of_mem hk
  have h0 := (cmpK_zero t y k).2 hkk
  rcases Nat.lt_trichotomy r p with h | rfl | h
  · have := hl r k h hr'; omega
  · exact hp k hr' h0
  · obtain ⟨x, hx⟩ : ∃ x, L[p]? = some x := ⟨_, List.getElem?_eq_getElem (by have := (List.getElem?_eq_some_iff.1 hr').1; omega)⟩
    have h1 := hr p x (Nat.le_refl _) hx
    have h2 := hp x hx
    rw [← Int.not_lt, cmpK_neg] at h1
    rw [cmpK_zero] at h2
    have h3 := hU.at_ hx hr' h
    omega

set_option maxRecDepth 100000 in
set_option maxHeartbeats 4000000 in
theorem BinarySearch_any (a : Option Addr) (n c : Nat) (L : List Ck) (t : Nat) (y : Int) (w : World) (hL : Chunks w a n c L) (hn : n ≤ 1000000000000) (hU : Up L) :
    Calls Try.prog 49 #[.slice a n c, .agg #[.int .u64 t, .int .i64 y], .func (.func 50) #[] #[]] w (BsPost w L t y) := by
  have HL := Lib.hid hL.1
  have hr := hL.2.1
  go_enter Try.func49, Try.ntmps49
  go_wp2
  go_loopw [9, 10] (BsRel (w.alloc (.cells #[.int .u64 t, .int .i64 y] 44)) L t y) (fun i j _ => (intOf j).toNat - (intOf i).toNat)
  case atStart => exact ⟨0, n, rfl, rfl, by omega, by have := HL.out; omega, (fun r k h => by omega), (fun r k h hk => by have := (List.getElem?_eq_some_iff.1 hk).1; have := HL.out; omega), Below.refl _ _⟩
  case round =>
    obtain ⟨p, q, rfl, rfl, hpq, hq, hlo, hhi, hx⟩ := hrel
    rename World => w1
    have HLo := Lib.hid hlo
    have HHi := Lib.hid hhi
    clear hlo hhi
    have hqn : q ≤ n := by have := HL.out; omega
    have hbox := hx.heap' (heap_alloc_new w (.cells #[.int .u64 t, .int .i64 y] 44))
    have hx0 := (Ext.alloc' w (.cells #[.int .u64 t, .int .i64 y] 44)).trans' hx
    have hrw := hr.ext hx0
    have hbx : ∀ w', Ext w1 w' → w'.rangeAt w.heap.size 0 [.int .u64 t, .int .i64 y] := fun w' hx j v hj => by
      rw [Nat.zero_add, cell_of_row _ _ _ _ _ _ (hx.heap' hbox), ← hj]; simp
    by_cases hlt : p < q
    · obtain ⟨h, hh⟩ : ∃ h : Nat, h = (p + q) / 2 := ⟨_, rfl⟩
      have hhn : h < n := by omega
      obtain ⟨k, hk⟩ : ∃ k, L[h]? = some k := ⟨_, List.getElem?_eq_getElem (by have := HL.out; omega)⟩
      have HK := Lib.hid hk
      clear hk
      go_wp2
      refine wp_region_e [] (.qs [0, 1, 2, 3, 4, 5] (.l 6 (.qs [7] .nil))) (by kernel_rfl) (by kernel_rfl) ?_
      iterate 3 ((refine wpY_q rfl rfl _ (fun w' hx' => by go_simp; try rfl) ?_; go_simp))
      refine wpY_ix rfl rfl (.tmp 25) (.tmp 26) rfl Try.elC rfl (fun w' h => hrw.ext h) h rfl (by omega) hhn ?_
      intro b3 o3 hc3
      have hi3 : ∀ w', Ext w1 w' → w'.rangeAt b3 o3 k.cells := fun w' hx => range_get HK.out (fun j hj => hc3 j hj w' hx)
      clear hc3
      refine wpY_ld rfl rfl (.tmp 27) rfl b3 o3 rfl k.cells _ hi3 Try.underlying46 rfl (by kernel_rfl) ?_
      simp only [Ck.cells]
      refine wpY_ld rfl rfl (.tmp 4) rfl w.heap.size 0 rfl [.int .u64 t, .int .i64 y] _ hbx Try.underlying44 rfl (by kernel_rfl) ?_
      refine wpY_l rfl rfl ?_
      go_simp
      refine (FindCmp_any k.s t k.z y k.a k.n k.c _).mono ?_
      rintro e w2 ⟨rfl, hx2⟩
      have E2 := (Ext.drew' w1).trans' hx2
      refine ⟨E2, ?_⟩
      by_cases hneg : cmpK t y k < 0
      · have hd : decide (orI (cmpI k.s t) (cmpI k.z y) < 0) = true := decide_eq_true hneg
        have HN := Lib.hid hneg
        clear hneg
        go_simp
        ((refine wpY_q rfl rfl _ (fun w' hx' => by go_simp; try rfl) ?_; go_simp))
        refine wpY_nil ?_
        clear hi3 hbx
        go_wp2
        go_roundw
        case rel =>
          refine ⟨h + 1, q, by congr 1; omega, rfl, by omega, hq, fun r k' hr hk' => ?_, HHi.out, hx.trans' E2⟩
          rcases Nat.lt_or_ge r h with h' | h'
          · have h1 := hU.at_ hk' HK.out h'
            have h2 := (cmpK_neg t y k).1 HN.out
            exact (cmpK_neg t y k').2 (by omega)
          · obtain rfl : r = h := by omega
            rw [HK.out] at hk'
            cases hk'
            exact HN.out
        case measure => simp [intOf]; omega
      · have hd : decide (orI (cmpI k.s t) (cmpI k.z y) < 0) = false := decide_eq_false hneg
        have HN := Lib.hid hneg
        clear hneg
        go_simp
        ((refine wpY_q rfl rfl _ (fun w' hx' => by go_simp; try rfl) ?_; go_simp))
        refine wpY_nil ?_
        clear hi3 hbx
        go_wp2
        go_roundw
        case rel =>
          refine ⟨p, h, rfl, by congr 1; omega, by omega, by omega, HLo.out, fun r k' hr hk' => ?_, hx.trans' E2⟩
          rcases Nat.lt_or_ge h r with h' | h'
          · have h1 := hU.at_ HK.out hk' h'
            have h2 := HN.out
            rw [← Int.not_lt, cmpK_neg]
            rw [cmpK_neg] at h2
            omega
          · obtain rfl : r = h := by omega
            rw [HK.out] at hk'
            cases hk'
            exact Int.not_lt.1 HN.out
        case measure => simp [intOf]; omega
    · obtain rfl : p = q := by omega
      by_cases hpn : p < n
      · obtain ⟨k, hk⟩ : ∃ k, L[p]? = some k := ⟨_, List.getElem?_eq_getElem (by have := HL.out; omega)⟩
        have HK := Lib.hid hk
        clear hk
        go_wp2
        refine wp_region_e [] (.qs [0, 1, 2, 3, 4, 5, 6, 7, 8, 9, 10] (.l 11 (.qs [12, 13, 14, 15] .nil))) (by kernel_rfl) (by kernel_rfl) ?_
        iterate 8 ((refine wpY_q rfl rfl _ (fun w' hx' => by go_simp; try rfl) ?_; go_simp))
        refine wpY_ix rfl rfl (.tmp 41) (.tmp 42) rfl Try.elC rfl (fun w' h => hrw.ext h) p rfl rfl hpn ?_
        intro b3 o3 hc3
        have hi3 : ∀ w', Ext w1 w' → w'.rangeAt b3 o3 k.cells := fun w' hx => range_get HK.out (fun j hj => hc3 j hj w' hx)
        clear hc3
        refine wpY_ld rfl rfl (.tmp 43) rfl b3 o3 rfl k.cells _ hi3 Try.underlying46 rfl (by kernel_rfl) ?_
        simp only [Ck.cells]
        refine wpY_ld rfl rfl (.tmp 4) rfl w.heap.size 0 rfl [.int .u64 t, .int .i64 y] _ hbx Try.underlying44 rfl (by kernel_rfl) ?_
        refine wpY_l rfl rfl ?_
        go_simp
        refine (FindCmp_any k.s t k.z y k.a k.n k.c _).mono ?_
        rintro e w2 ⟨rfl, hx2⟩
        have E2 := (Ext.drew' w1).trans' hx2
        refine ⟨E2, ?_⟩
        by_cases hz : cmpK t y k = 0
        · have hd : (orI (cmpI k.s t) (cmpI k.z y) == 0) = true := beq_iff_eq.2 hz
          have HZ := Lib.hid hz
          clear hz
          go_simp
          iterate 4 ((refine wpY_q rfl rfl _ (fun w' hx' => by go_simp; try rfl) ?_; go_simp))
          refine wpY_nil ?_
          clear hi3 hbx
          go_wp2
          go_ret2
          exact ⟨p, true, rfl, fun _ => ⟨k, HK.out, (cmpK_zero t y k).1 HZ.out⟩, (fun h => by cases h), hx0.trans' E2⟩
        · have hd : (orI (cmpI k.s t) (cmpI k.z y) == 0) = false := beq_eq_false_iff_ne.2 hz
          have HZ := Lib.hid hz
          clear hz
          go_simp
          iterate 4 ((refine wpY_q rfl rfl _ (fun w' hx' => by go_simp; try rfl) ?_; go_simp))
          refine wpY_nil ?_
          clear hi3 hbx
          go_wp2
          go_ret2
          exact ⟨p, false, rfl, (fun h => by cases h), fun _ => bs_none hU HLo.out HHi.out (fun k' hk' => by rw [HK.out] at hk'; cases hk'; exact HZ.out), hx0.trans' E2⟩
      · have hd : decide ((p : Int) < n) = false := by simp; omega
        go_wp2
        refine wp_region_e [] (.qs [0, 1, 2, 3, 4, 5, 6, 7, 8, 9, 10] (.l 11 (.qs [12, 13, 14, 15] .nil))) (by kernel_rfl) (by kernel_rfl) ?_
        iterate 5 ((refine wpY_q rfl rfl _ (fun w' hx' => by go_simp; try rfl) ?_; go_simp))
        iterate 6 ((refine wpY_skip rfl rfl ?_; go_simp))
        refine wpY_lskip rfl rfl ?_
        go_simp
        ((refine wpY_skip rfl rfl ?_; go_simp))
        iterate 3 ((refine wpY_q rfl rfl _ (fun w' hx' => by go_simp; try rfl) ?_; go_simp))
        refine wpY_nil ?_
        clear hbx
        go_wp2
        go_ret2
        exact ⟨p, false, rfl, (fun h => by cases h), fun _ => bs_none hU HLo.out HHi.out (fun k' hk' => by have := (List.getElem?_eq_some_iff.1 hk').1; have := HL.out; omega), hx0.trans' (Ext.drew' _)⟩

set_option maxRecDepth 100000 in
set_option maxHeartbeats 4000000 in
theorem Find_any (a : Option Addr) (n c : Nat) (l : List UInt8) (t : Nat) (y : Int) (w : World) (hb : Bytes w a n c l) (hn : n ≤ 140737488355328) :
    Calls Try.prog 26 #[.slice a n c, .agg #[.int .u64 t, .int .i64 y]] w (FindPost w l t y) := by
  obtain ⟨S, er, hd⟩ : ∃ S er, decRes l = (S, er) := ⟨_, _, rfl⟩
  have hfr : findRes l t y = if er ≠ 0 then ([], er) else findB S t y := by unfold findRes; rw [hd]
  have HD := Lib.hid hd
  by_cases h0 : er = 0
  rotate_left
  · have HF := Lib.hid (show findRes l t y = ([], er) by rw [hfr, if_pos h0])
    obtain ⟨q0, q1⟩ := ne0 h0
    clear hd hfr h0
    go_enter Try.func26, Try.ntmps26
    go_wp2_with (go_at_call 22; (with_reducible refine (Decode_any a n c l _ (hb.ext (Ext.alloc' _ _)) hn).mono ?_); rintro e w1 hp1; obtain ⟨cn, cc, ca, L, rfl, hO1, hL1, hx1, hcn⟩ := hp1.is HD.out)
    go_ret2
    exact FindPost.no HF.out ((Ext.alloc' _ _).trans' hx1)
  subst h0
  have hS := (dec_is hd).2.2.2
  have HF := Lib.hid (show findRes l t y = findB S t y by rw [hfr, if_neg (by decide)])
  have HS := Lib.hid hS
  clear hd hfr hS
  go_enter Try.func26, Try.ntmps26
  go_wp2_with (first
    | (go_at_call 22; (with_reducible refine (Decode_any a n c l _ (hb.ext (Ext.alloc' _ _)) hn).mono ?_); rintro e w1 hp1; obtain ⟨cn, cc, ca, L, rfl, hO1, hL1, hx1, hcn⟩ := hp1.is HD.out; have hbx1 := hx1.heap' (heap_alloc_new w (.cells #[.int .u64 t, .int .i64 y] 44)); have hrg1 := range_of_heap2 hbx1; have HL1 := Lib.hid hL1; have hU : Up L := Up.of_d (by rw [hL1]; exact HS.out))
    | ((with_reducible refine atSlot 20 ?_); refine wpList_of_wp rfl (wp_load_mid (op := ⟨some 20, _, _, _, _, _⟩) 44 _ rfl w.heap.size 0 rfl [.int .u64 t, .int .i64 y] _ hrg1 Try.underlying44 rfl (by kernel_rfl) ?_))
    | (go_at_call 49; refine (BinarySearch_any ca cn cc L t y _ hO1.chunks (by omega) hU).mono ?_; rintro e w2 ⟨i, f, rfl, hf1, hf0, hx2⟩; refine Stop.of ?_))
  have hx02 := ((Ext.alloc' w _).trans' hx1).trans' hx2
  cases f with
  | false =>
    have hno : findB S t y = ([], 295) := by rw [← HL1.out]; exact findB_no (hf0 rfl)
    refine Stop.out ?_
    clear hf0 hf1
    go_wp2
    go_ret2
    exact FindPost.no (HF.out.trans hno) hx02
  | true =>
    obtain ⟨k, hk, hks, hkz⟩ := hf1 rfl
    have hyes : findB S t y = (k.l, 0) := by rw [← HL1.out]; exact findB_yes hU (List.mem_of_getElem? hk) hks hkz
    have hkb := (hO1.ext hx2).chunks.2.2 k (List.mem_of_getElem? hk)
    have hr2 := (Row.of_own hO1.1).ext hx2
    have hin : i < cn := by have := (List.getElem?_eq_some_iff.1 hk).1; have := hO1.len; omega
    have HK := Lib.hid hk
    have HY := Lib.hid hyes
    clear hk hyes hf0 hf1 hks hkz
    refine Stop.out ?_
    go_wp2_with (first
      | ((with_reducible refine atSlot 28 ?_); refine wpList_of_wp rfl (owp_ix (o := ⟨some 28, _, _, _, _, _⟩) _ _ rfl Try.elC rfl hr2 i rfl rfl hin ?_); intro b3 o3 hc3; have hd3 : w2.cell? ⟨b3, o3 + 2, none⟩ = some (.slice k.a k.n k.c) := (hc3 2 (by omega)).trans (cells_get HK.out 2 (by omega)); clear hc3))
    go_ret2
    exact FindPost.yes (HF.out.trans HY.out) hkb.1 hx02

def RfRel (w : World) (L : List Ck) (t : Nat) (y : Int) (i : Value) (wr : World) : Prop :=
  ∃ j : Nat, i = .int .i64 j ∧ j ≤ L.length ∧ (∀ r k, r < j → L[r]? = some k → ¬ (k.s = t ∧ k.z = y)) ∧ Ext w wr

set_option maxRecDepth 100000 in
set_option maxHeartbeats 4000000 in
theorem refFind_any (a : Option Addr) (n c : Nat) (l : List UInt8) (t : Nat) (y : Int) (w : World) (hb : Bytes w a n c l) (hn : n ≤ 140737488355328) :
    Calls Try.prog 29 #[.slice a n c, .agg #[.int .u64 t, .int .i64 y]] w (FindPost w l t y) := by
  obtain ⟨S, er, hd⟩ : ∃ S er, decRes l = (S, er) := ⟨_, _, rfl⟩
  have hfr : findRes l t y = if er ≠ 0 then ([], er) else findB S t y := by unfold findRes; rw [hd]
  have HD := Lib.hid hd
  by_cases h0 : er = 0
  rotate_left
  · have HF := Lib.hid (show findRes l t y = ([], er) by rw [hfr, if_pos h0])
    obtain ⟨q0, q1⟩ := ne0 h0
    clear hd hfr h0
    go_enter Try.func29, Try.ntmps29
    go_wp2_with (go_at_call 23; (with_reducible refine (refDecode_any a n c l _ (hb.ext (Ext.alloc' _ _)) hn).mono ?_); rintro e w1 hp1; obtain ⟨cn, cc, ca, L, rfl, hO1, hL1, hx1, hcn⟩ := hp1.is HD.out)
    go_ret2
    exact FindPost.no HF.out ((Ext.alloc' _ _).trans' hx1)
  subst h0
  have hS := (dec_is hd).2.2.2
  have HF := Lib.hid (show findRes l t y = findB S t y by rw [hfr, if_neg (by decide)])
  have HS := Lib.hid hS
  clear hd hfr hS
  go_enter Try.func29, Try.ntmps29
  go_wp2_with (go_at_call 23; (with_reducible refine (refDecode_any a n c l _ (hb.ext (Ext.alloc' _ _)) hn).mono ?_); rintro e w1 hp1; obtain ⟨cn, cc, ca, L, rfl, hO1, hL1, hx1, hcn⟩ := hp1.is HD.out; have hbx1 := Lib.hid (hx1.heap' (heap_alloc_new w (.cells #[.int .u64 t, .int .i64 y] 44))); have HL1 := Lib.hid hL1; have hU : Up L := Up.of_d (by rw [hL1]; exact HS.out))
  clear hL1
  have hx01 := (Ext.alloc' w _).trans' hx1
  have hLn := hO1.len
  have hr1 := Row.of_own hO1.1
  go_loopw [8] (RfRel w1 L t y) (fun i _ => cn - (intOf i).toNat)
  case atStart => exact ⟨0, rfl, by omega, (fun r k h => by omega), Below.refl _ _⟩
  case round =>
    obtain ⟨j, rfl, hj, hno, hx⟩ := hrel
    rename World => w2
    have HNO := Lib.hid hno
    clear hno
    by_cases hjn : j < cn
    · obtain ⟨k, hk⟩ : ∃ k, L[j]? = some k := ⟨_, List.getElem?_eq_getElem (by omega)⟩
      have hkb := ((hO1.ext hx).chunks.2.2 k (List.mem_of_getElem? hk)).1
      have hr2 := hr1.ext hx
      have hbx : ∀ w', Ext w2 w' → w'.rangeAt w.heap.size 0 [.int .u64 t, .int .i64 y] := fun w' h => range_of_heap2 ((hx.trans' h).heap' hbx1.out)
      have HK := Lib.hid hk
      clear hk
      have hcase : (k.s ≠ t ∨ k.s = t ∧ k.z ≠ y) ∨ k.s = t ∧ k.z = y := by omega
      go_wp2
      refine wp_region_e [] (.qs [0, 1, 2, 3, 4, 5, 6] .nil) (by kernel_rfl) (by kernel_rfl) ?_
      iterate 2 ((refine wpY_q rfl rfl _ (fun w' hx' => by go_simp; try rfl) ?_; go_simp))
      refine wpY_ix rfl rfl (.tmp 23) (.tmp 24) rfl Try.elC rfl (fun w' h => hr2.ext h) j rfl rfl hjn ?_
      intro b3 o3 hc3
      have hi3 := range_id HK.out hc3
      clear hc3
      ((refine wpY_q rfl rfl _ (fun w' hx' => by go_simp; try rfl) ?_; go_simp))
      refine wpY_ld rfl rfl (.tmp 26) rfl b3 o3 rfl [.int .u64 k.s, .int .i64 k.z] _ hi3 Try.underlying44 rfl (by kernel_rfl) ?_
      refine wpY_ld rfl rfl (.tmp 3) rfl w.heap.size 0 rfl [.int .u64 t, .int .i64 y] _ hbx Try.underlying44 rfl (by kernel_rfl) ?_
      clear hi3 hbx
      rcases hcase with hcase | ⟨hks, hkz⟩
      · have hne : ¬ (k.s = t ∧ k.z = y) := by omega
        have HNE := Lib.hid hne
        clear hne
        rcases hcase with hks | ⟨hks, hkz⟩
        · obtain ⟨q1, q2⟩ := neI (x := (k.s : Int)) (y := (t : Int)) (by omega)
          clear hks
          ((refine wpY_q rfl rfl _ (fun w' hx' => by go_simp; try rfl) ?_; go_simp))
          refine wpY_nil ?_
          go_wp2
          go_roundw
          case rel =>
            refine ⟨j + 1, by go_num, by omega, fun r k' hr hk' => ?_, hx.trans' (Ext.drew' _)⟩
            rcases Nat.lt_or_ge r j with h' | h'
            · exact HNO.out r k' h' hk'
            · obtain rfl : r = j := by omega
              rw [HK.out] at hk'
              cases hk'
              exact HNE.out
          case measure => simp [intOf]; omega
        · obtain ⟨q1, q2⟩ := eqI (x := (k.s : Int)) (y := (t : Int)) (by omega)
          obtain ⟨q3, q4⟩ := neI (x := k.z) (y := y) hkz
          clear hks hkz
          ((refine wpY_q rfl rfl _ (fun w' hx' => by go_simp; try rfl) ?_; go_simp))
          refine wpY_nil ?_
          go_wp2
          go_roundw
          case rel =>
            refine ⟨j + 1, by go_num, by omega, fun r k' hr hk' => ?_, hx.trans' (Ext.drew' _)⟩
            rcases Nat.lt_or_ge r j with h' | h'
            · exact HNO.out r k' h' hk'
            · obtain rfl : r = j := by omega
              rw [HK.out] at hk'
              cases hk'
              exact HNE.out
          case measure => simp [intOf]; omega
      · obtain ⟨q1, q2⟩ := eqI (x := (k.s : Int)) (y := (t : Int)) (by omega)
        obtain ⟨q3, q4⟩ := eqI (x := k.z) (y := y) hkz
        have hyes : findB S t y = (k.l, 0) := by rw [← HL1.out]; exact findB_yes hU (List.mem_of_getElem? HK.out) hks hkz
        have HY := Lib.hid hyes
        have hr3 := hr2.ext (Ext.drew' _)
        clear hyes hks hkz
        ((refine wpY_q rfl rfl _ (fun w' hx' => by go_simp; try rfl) ?_; go_simp))
        refine wpY_nil ?_
        go_wp2_with (first
          | ((with_reducible refine atSlot 32 ?_); refine wpList_of_wp rfl (owp_ix (o := ⟨some 32, _, _, _, _, _⟩) _ _ rfl Try.elC rfl hr3 j rfl rfl hjn ?_); intro b4 o4 hc4; have hd4 : w2.drew.cell? ⟨b4, o4 + 2, none⟩ = some (.slice k.a k.n k.c) := (hc4 2 (by omega)).trans (cells_get HK.out 2 (by omega)); clear hc4))
        go_ret2
        exact FindPost.yes (HF.out.trans HY.out) (hkb.ext (Ext.drew' _)) ((hx01.trans' hx).trans' (Ext.drew' _))
    · have hd : decide (j < cn) = false := by simpa using hjn
      have hnone : findB S t y = ([], 295) := by
        rw [← HL1.out]
        exact findB_no (fun k hk => by
          obtain ⟨r, hr⟩ := List.getElem?_of_mem hk
          exact HNO.out r k (by have := (List.getElem?_eq_some_iff.1 hr).1; omega) hr)
      have HY := Lib.hid hnone
      clear hnone
      go_wp2
      go_ret2
      exact FindPost.no (HF.out.trans HY.out) (hx01.trans' hx)
end Go.Proofs.Ytncdcpaelecikaa
