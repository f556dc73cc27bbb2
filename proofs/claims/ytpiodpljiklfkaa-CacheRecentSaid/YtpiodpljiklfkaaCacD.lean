/-
  Caches: Pin, Unpin, IDs.
-/
import Derived.Test.YtpiodpljiklfkaaCacC
namespace Go.Proofs.Ytpiodpljiklfkaa
open Go.RowKit Go.WideMaps

theorem setP_size (E : List En) (i p : Nat) : sizeF (setP E i p) = sizeF E := by
  unfold setP
  cases hx : E[i]? with
  | none => rfl
  | some x =>
    obtain ⟨A, B, rfl, rfl, -⟩ := cut_at hx
    simp only [List.set_append_right _ _ (Nat.le_refl _), Nat.sub_self, List.set_cons_zero]
    rw [sizeF_app, sizeF_app]
    simp [sizeF]
theorem setP_cut {A D : List En} {x : En} {p : Nat} : setP (A ++ x :: D) A.length p = A ++ { x with p := p } :: D := by
  unfold setP
  rw [List.getElem?_append_right (Nat.le_refl _), Nat.sub_self]
  simp [List.set_append_right _ _ (Nat.le_refl _)]
theorem Ca.setPins {w : World} {B c m e room x p : Nat} {N : Nat → Nd} {A D : List Nat} (h : Ca w B c m e room N (A ++ x :: D)) (hp : p ≤ 1024) :
    ∃ N', Ca (w.setCell ⟨x, 5, none⟩ (.int .i64 p)) B c m e room N' (A ++ x :: D) ∧ ents N' (A ++ x :: D) = setP (ents N (A ++ x :: D)) A.length p := by
  have hxL : x ∈ e :: (A ++ x :: D) := by simp
  have hnd := (List.nodup_cons.1 h.nodup).2
  obtain ⟨N', hN⟩ : ∃ N' : Nat → Nd, N' = fun k => if k = x then { N x with pins := p } else N k := ⟨_, rfl⟩
  have hnx : N' x = { N x with pins := p } := by rw [hN]; exact if_pos rfl
  have hne : ∀ k, k ≠ x → N' k = N k := fun k hk => by rw [hN]; exact if_neg hk
  have hall : ∀ k, (N' k).prev = (N k).prev ∧ (N' k).next = (N k).next ∧ (N' k).s = (N k).s ∧ (N' k).z = (N k).z ∧ (N' k).a = (N k).a ∧ (N' k).n = (N k).n ∧ (N' k).c = (N k).c ∧ (N' k).l = (N k).l := fun k => by
    by_cases hk : k = x
    · rw [hk, hnx]; exact ⟨rfl, rfl, rfl, rfl, rfl, rfl, rfl, rfl⟩
    · rw [hne k hk]; exact ⟨rfl, rfl, rfl, rfl, rfl, rfl, rfl, rfl⟩
  have hE : ents N' (A ++ x :: D) = setP (ents N (A ++ x :: D)) A.length p := by
    have h1 : ents N (A ++ x :: D) = ents N A ++ enOf (N x) :: ents N D := by simp [ents]
    have h2 : ents N' (A ++ x :: D) = ents N' A ++ enOf (N' x) :: ents N' D := by simp [ents]
    rw [List.nodup_append, List.nodup_cons] at hnd
    have hA : ents N' A = ents N A := List.map_congr_left fun k hk => by rw [hne k (fun e => hnd.2.2 k hk x (by simp) e)]
    have hD : ents N' D = ents N D := List.map_congr_left fun k hk => by rw [hne k (fun e => hnd.2.1.1 (e ▸ hk))]
    rw [h2, h1, show A.length = (ents N A).length by simp [ents], setP_cut, hA, hD, hnx]
    rfl
  have hc : Chg [x] w (w.setCell ⟨x, 5, none⟩ (.int .i64 p)) := chg_set w (by simp)
  have hT : Typed w [x] := fun k hk => by
    obtain rfl : k = x := by simpa using hk
    exact h.typed k (by simp)
  refine ⟨N', ⟨?_, fun k hk => ?_, ?_, h.nodup, ?_, fun k hk => ?_, h.base, by rw [hE]; exact setP_ok h.ok hp, h.max⟩, hE⟩
  · rw [hE, setP_size]
    exact h.box.chg hc (fun hm => h.c_ne (by obtain rfl : c = x := by simpa using hm
                                             exact hxL))
  · by_cases hkx : k = x
    · rw [hkx, hnx]
      exact (h.nodes x hxL).set rfl
    · rw [hne k hkx]
      exact (h.nodes k hk).other hkx
  · exact h.ring.congr (fun k _ => (hall k).2.1) (fun k _ => (hall k).1)
  · refine (h.map.chg hc (fun hm => h.m_ne.1 (by obtain rfl : m = x := by simpa using hm
                                                 exact hxL))).congr fun a => ?_
    unfold mapOf blkOf
    have : (fun b => decide ((enOf (N' b)).id = a.1)) = fun b => decide ((enOf (N b)).id = a.1) := funext fun b => by
      obtain ⟨-, -, h1, h2, -⟩ := hall b
      have : (enOf (N' b)).id = (enOf (N b)).id := Prod.ext h1 h2
      rw [this]
    rw [this]
  · obtain ⟨-, -, -, -, q1, q2, q3, q4⟩ := hall k
    rw [q1, q2, q3, q4]
    exact own_chg (h.data k hk) hc hT (by decide) (by decide)

def FlagO (w : World) (B c room : Nat) (F : List Nat) (r : List En × Bool) (en : Ending) (w' : World) : Prop := en = .returned (.bool r.2) ∧ CacTo w B c room F r.1 w'

set_option maxRecDepth 100000 in
set_option maxHeartbeats 4000000 in
theorem Pin_any (B c room : Nat) (E : List En) (F : List Nat) (s : Nat) (z : Int) (w : World) (h : Cac w B c room E F) (hs : s ≤ 18446744073709551615) (hz : -9223372036854775808 ≤ z ∧ z ≤ 9223372036854775807) :
    Calls Try.prog 23 #[.pointer (some ⟨c, 0, none⟩), .agg #[.int .u64 s, .int .i64 z]] w (FlagO w B c room F (pinC E (s, z))) := by
  obtain ⟨m, e, N, L, hC, rfl, rfl⟩ := h
  obtain ⟨k, hk, hkv⟩ := key_of hs hz
  have HKV := Lib.hid hkv
  have hx1 : Ext w (w.alloc (.cells #[.int .u64 s, .int .i64 z] 45)) := Ext.alloc' w _
  have HC1 := Lib.hid (hC.ext hx1)
  have HH1 := Lib.hid (heap_alloc_new w (.cells #[.int .u64 s, .int .i64 z] 45))
  clear hC hs hz hkv
  cases hat : atF (s, z) (ents N L) with
  | none =>
    have HV := Lib.hid (show mapOf N L k = none by unfold mapOf; rw [hk, blk_none hat]; rfl)
    have hp : pinC (ents N L) (s, z) = (ents N L, false) := by unfold pinC; rw [hat]
    rw [hp]
    clear hat hp hk
    go_enter Try.func23, Try.ntmps23
    go_wp2
    generalize w.alloc (.cells #[.int .u64 s, .int .i64 z] 45) = w1 at hx1 HC1 HH1 ⊢
    have HB := Lib.hid fun w' (h : Ext w1 w') => (HC1.out.ext h).box.map
    have HM := Lib.hid fun w' (h : Ext w1 w') => (HC1.out.ext h).map
    have HK := Lib.hid fun w' (h : Ext w1 w') => range_of_heap2 (h.heap' HH1.out)
    have E1 := Ext.drew' w1
    refine wp_region_e [] (.qs [0, 1, 2, 3, 4, 5, 6, 7, 8, 9, 10] .nil) (by kernel_rfl) (by kernel_rfl) ?_
    iterate 3 ((refine wpY_q rfl rfl _ (fun w' hx' => by go_simp; try rfl) ?_; go_simp))
    refine wpY_q rfl rfl (.map (some m)) (fun w' hx' => by have hb' := HB.out w' hx'; go_simp; try rfl) ?_
    go_simp
    refine wpY_ld rfl rfl (.tmp 3) rfl w.heap.size 0 rfl [.int .u64 s, .int .i64 z] _ HK.out Try.underlying45 rfl (by kernel_rfl) ?_
    refine wpY_look rfl rfl Try.kvI (.tmp 11) (.tmp 12) rfl Try.underlying76 (z := .pointer none) (fun w' => zero_of (by kernel_rfl) w') rfl HM.out k HKV.out.symm ?_
    rw [HV.out]
    iterate 5 ((refine wpY_q rfl rfl _ (fun w' hx' => by go_simp; try rfl) ?_; go_simp))
    refine wpY_nil ?_
    clear HB HM HK
    go_wp2
    go_ret
    exact ⟨rfl, _, ⟨m, e, N, L, HC1.out.ext E1, rfl, rfl⟩, Chg.of_ext (hx1.trans' E1), fun k hk => .inl hk⟩
  | some i =>
    obtain ⟨A, x, D, rfl, rfl, hb, hid⟩ := blk_at hat
    have HV := Lib.hid (show mapOf N (A ++ x :: D) k = some (.pointer (some ⟨x, 0, none⟩)) by unfold mapOf; rw [hk, hb]; rfl)
    have hat2 := @ents_at N A D x
    obtain ⟨p, hpe⟩ : ∃ p, p = (N x).pins := ⟨_, rfl⟩
    have hp1024 : p ≤ 1024 := by
      have h := (HC1.out.ok.right (enOf (N x)) (List.mem_map_of_mem (f := fun k => enOf (N k)) (by simp))).2.2
      rw [hpe]; exact h
    by_cases hcd : 1024 ≤ p
    · have hp : pinC (ents N (A ++ x :: D)) (s, z) = (ents N (A ++ x :: D), false) := by unfold pinC; rw [hat]; simp only; rw [hat2]; simp only; exact if_pos (by rw [show (enOf (N x)).p = p from hpe.symm]; exact hcd)
      rw [hp]
      have hd1 : decide ((1024 : Int) ≤ p) = true := decide_eq_true (by omega)
      have HPE := Lib.hid hpe
      clear hat hat2 hp hk hb hid hcd hpe
      go_enter Try.func23, Try.ntmps23
      go_wp2
      generalize w.alloc (.cells #[.int .u64 s, .int .i64 z] 45) = w1 at hx1 HC1 HH1 ⊢
      have HB := Lib.hid fun w' (h : Ext w1 w') => (HC1.out.ext h).box.map
      have HM := Lib.hid fun w' (h : Ext w1 w') => (HC1.out.ext h).map
      have HK := Lib.hid fun w' (h : Ext w1 w') => range_of_heap2 (h.heap' HH1.out)
      have E1 := Ext.drew' w1
      refine wp_region_e [] (.qs [0, 1, 2, 3, 4, 5, 6, 7, 8, 9, 10] .nil) (by kernel_rfl) (by kernel_rfl) ?_
      iterate 3 ((refine wpY_q rfl rfl _ (fun w' hx' => by go_simp; try rfl) ?_; go_simp))
      refine wpY_q rfl rfl (.map (some m)) (fun w' hx' => by have hb' := HB.out w' hx'; go_simp; try rfl) ?_
      go_simp
      refine wpY_ld rfl rfl (.tmp 3) rfl w.heap.size 0 rfl [.int .u64 s, .int .i64 z] _ HK.out Try.underlying45 rfl (by kernel_rfl) ?_
      refine wpY_look rfl rfl Try.kvI (.tmp 11) (.tmp 12) rfl Try.underlying76 (z := .pointer none) (fun w' => zero_of (by kernel_rfl) w') rfl HM.out k HKV.out.symm ?_
      rw [HV.out]
      iterate 5 ((refine wpY_q rfl rfl _ (fun w' hx' => by go_simp; try rfl) ?_; go_simp))
      refine wpY_nil ?_
      clear HB HM HK
      have hd := ((HC1.out.ext E1).nodes x (by simp)).pins
      rw [← HPE.out] at hd
      go_wp2
      go_ret
      exact ⟨rfl, _, ⟨m, e, N, _, HC1.out.ext E1, rfl, rfl⟩, Chg.of_ext (hx1.trans' E1), fun k hk => .inl hk⟩
    · have hp : pinC (ents N (A ++ x :: D)) (s, z) = (setP (ents N (A ++ x :: D)) A.length (p + 1), true) := by unfold pinC; rw [hat]; simp only; rw [hat2]; simp only; rw [if_neg (by rw [show (enOf (N x)).p = p from hpe.symm]; exact hcd), show (enOf (N x)).p = p from hpe.symm]
      rw [hp]
      have hd1 : decide ((1024 : Int) ≤ p) = false := decide_eq_false (by omega)
      have hnv : (p : Int) + 1 = ((p + 1 : Nat) : Int) := by omega
      have hle : p + 1 ≤ 1024 := by omega
      obtain ⟨np, hnp⟩ : ∃ np, np = p + 1 := ⟨_, rfl⟩
      rw [← hnp] at hnv hle ⊢
      have HNV := Lib.hid hnv
      have HPE := Lib.hid hpe
      clear hat hat2 hp hk hb hid hcd hnp hnv hpe
      go_enter Try.func23, Try.ntmps23
      go_wp2
      generalize w.alloc (.cells #[.int .u64 s, .int .i64 z] 45) = w1 at hx1 HC1 HH1 ⊢
      have HB := Lib.hid fun w' (h : Ext w1 w') => (HC1.out.ext h).box.map
      have HM := Lib.hid fun w' (h : Ext w1 w') => (HC1.out.ext h).map
      have HK := Lib.hid fun w' (h : Ext w1 w') => range_of_heap2 (h.heap' HH1.out)
      have E1 := Ext.drew' w1
      refine wp_region_e [] (.qs [0, 1, 2, 3, 4, 5, 6, 7, 8, 9, 10] .nil) (by kernel_rfl) (by kernel_rfl) ?_
      iterate 3 ((refine wpY_q rfl rfl _ (fun w' hx' => by go_simp; try rfl) ?_; go_simp))
      refine wpY_q rfl rfl (.map (some m)) (fun w' hx' => by have hb' := HB.out w' hx'; go_simp; try rfl) ?_
      go_simp
      refine wpY_ld rfl rfl (.tmp 3) rfl w.heap.size 0 rfl [.int .u64 s, .int .i64 z] _ HK.out Try.underlying45 rfl (by kernel_rfl) ?_
      refine wpY_look rfl rfl Try.kvI (.tmp 11) (.tmp 12) rfl Try.underlying76 (z := .pointer none) (fun w' => zero_of (by kernel_rfl) w') rfl HM.out k HKV.out.symm ?_
      rw [HV.out]
      iterate 5 ((refine wpY_q rfl rfl _ (fun w' hx' => by go_simp; try rfl) ?_; go_simp))
      refine wpY_nil ?_
      clear HB HM HK
      have hnode := (HC1.out.ext E1).nodes x (by simp)
      have hd := hnode.pins
      rw [← HPE.out] at hd
      obtain ⟨N', hC', hE'⟩ := (HC1.out.ext E1).setPins hle
      have HC' := Lib.hid hC'
      have HE' := Lib.hid hE'
      have HTH := Lib.hid (hnode.there (j := 5) (by decide))
      clear hnode hC' hE'
      go_wp2_with (first
        | ((with_reducible refine atStore 31 ?_); refine wpList_of_wp rfl (owp_st1 (o := ⟨none, _, _, _, _, _⟩) 3 _ _ rfl x 5 (.int .i64 ((p : Int) + 1)) rfl rfl rfl HTH.out (by kernel_rfl) rfl ?_))
        | fail)
      go_ret
      rw [HNV.out]
      refine ⟨rfl, _, ⟨m, e, N', _, HC'.out, HE'.out.symm, rfl⟩, ?_, fun k hk => .inl hk⟩
      exact (Chg.of_ext (hx1.trans' E1)).trans' (chg_set _ (by simp))

set_option maxRecDepth 100000 in
set_option maxHeartbeats 4000000 in
theorem Unpin_any (B c room : Nat) (E : List En) (F : List Nat) (s : Nat) (z : Int) (w : World) (h : Cac w B c room E F) (hs : s ≤ 18446744073709551615) (hz : -9223372036854775808 ≤ z ∧ z ≤ 9223372036854775807) :
    Calls Try.prog 24 #[.pointer (some ⟨c, 0, none⟩), .agg #[.int .u64 s, .int .i64 z]] w (FlagO w B c room F (unpC E (s, z))) := by
  obtain ⟨m, e, N, L, hC, rfl, rfl⟩ := h
  obtain ⟨k, hk, hkv⟩ := key_of hs hz
  have HKV := Lib.hid hkv
  have hx1 : Ext w (w.alloc (.cells #[.int .u64 s, .int .i64 z] 45)) := Ext.alloc' w _
  have HC1 := Lib.hid (hC.ext hx1)
  have HH1 := Lib.hid (heap_alloc_new w (.cells #[.int .u64 s, .int .i64 z] 45))
  clear hC hs hz hkv
  cases hat : atF (s, z) (ents N L) with
  | none =>
    have HV := Lib.hid (show mapOf N L k = none by unfold mapOf; rw [hk, blk_none hat]; rfl)
    have hp : unpC (ents N L) (s, z) = (ents N L, false) := by unfold unpC; rw [hat]
    rw [hp]
    clear hat hp hk
    go_enter Try.func24, Try.ntmps24
    go_wp2
    generalize w.alloc (.cells #[.int .u64 s, .int .i64 z] 45) = w1 at hx1 HC1 HH1 ⊢
    have HB := Lib.hid fun w' (h : Ext w1 w') => (HC1.out.ext h).box.map
    have HM := Lib.hid fun w' (h : Ext w1 w') => (HC1.out.ext h).map
    have HK := Lib.hid fun w' (h : Ext w1 w') => range_of_heap2 (h.heap' HH1.out)
    have E1 := Ext.drew' w1
    refine wp_region_e [] (.qs [0, 1, 2, 3, 4, 5, 6, 7, 8, 9, 10] .nil) (by kernel_rfl) (by kernel_rfl) ?_
    iterate 3 ((refine wpY_q rfl rfl _ (fun w' hx' => by go_simp; try rfl) ?_; go_simp))
    refine wpY_q rfl rfl (.map (some m)) (fun w' hx' => by have hb' := HB.out w' hx'; go_simp; try rfl) ?_
    go_simp
    refine wpY_ld rfl rfl (.tmp 3) rfl w.heap.size 0 rfl [.int .u64 s, .int .i64 z] _ HK.out Try.underlying45 rfl (by kernel_rfl) ?_
    refine wpY_look rfl rfl Try.kvI (.tmp 11) (.tmp 12) rfl Try.underlying76 (z := .pointer none) (fun w' => zero_of (by kernel_rfl) w') rfl HM.out k HKV.out.symm ?_
    rw [HV.out]
    iterate 5 ((refine wpY_q rfl rfl _ (fun w' hx' => by go_simp; try rfl) ?_; go_simp))
    refine wpY_nil ?_
    clear HB HM HK
    go_wp2
    go_ret
    exact ⟨rfl, _, ⟨m, e, N, L, HC1.out.ext E1, rfl, rfl⟩, Chg.of_ext (hx1.trans' E1), fun k hk => .inl hk⟩
  | some i =>
    obtain ⟨A, x, D, rfl, rfl, hb, hid⟩ := blk_at hat
    have HV := Lib.hid (show mapOf N (A ++ x :: D) k = some (.pointer (some ⟨x, 0, none⟩)) by unfold mapOf; rw [hk, hb]; rfl)
    have hat2 := @ents_at N A D x
    obtain ⟨p, hpe⟩ : ∃ p, p = (N x).pins := ⟨_, rfl⟩
    have hp1024 : p ≤ 1024 := by
      have h := (HC1.out.ok.right (enOf (N x)) (List.mem_map_of_mem (f := fun k => enOf (N k)) (by simp))).2.2
      rw [hpe]; exact h
    by_cases hcd : p = 0
    · have hp : unpC (ents N (A ++ x :: D)) (s, z) = (ents N (A ++ x :: D), false) := by unfold unpC; rw [hat]; simp only; rw [hat2]; simp only; exact if_pos (by rw [show (enOf (N x)).p = p from hpe.symm]; exact hcd)
      rw [hp]
      obtain ⟨q1, q2⟩ := eqI (x := (p : Int)) (y := 0) (by omega)
      have HPE := Lib.hid hpe
      clear hat hat2 hp hk hb hid hcd hpe
      go_enter Try.func24, Try.ntmps24
      go_wp2
      generalize w.alloc (.cells #[.int .u64 s, .int .i64 z] 45) = w1 at hx1 HC1 HH1 ⊢
      have HB := Lib.hid fun w' (h : Ext w1 w') => (HC1.out.ext h).box.map
      have HM := Lib.hid fun w' (h : Ext w1 w') => (HC1.out.ext h).map
      have HK := Lib.hid fun w' (h : Ext w1 w') => range_of_heap2 (h.heap' HH1.out)
      have E1 := Ext.drew' w1
      refine wp_region_e [] (.qs [0, 1, 2, 3, 4, 5, 6, 7, 8, 9, 10] .nil) (by kernel_rfl) (by kernel_rfl) ?_
      iterate 3 ((refine wpY_q rfl rfl _ (fun w' hx' => by go_simp; try rfl) ?_; go_simp))
      refine wpY_q rfl rfl (.map (some m)) (fun w' hx' => by have hb' := HB.out w' hx'; go_simp; try rfl) ?_
      go_simp
      refine wpY_ld rfl rfl (.tmp 3) rfl w.heap.size 0 rfl [.int .u64 s, .int .i64 z] _ HK.out Try.underlying45 rfl (by kernel_rfl) ?_
      refine wpY_look rfl rfl Try.kvI (.tmp 11) (.tmp 12) rfl Try.underlying76 (z := .pointer none) (fun w' => zero_of (by kernel_rfl) w') rfl HM.out k HKV.out.symm ?_
      rw [HV.out]
      iterate 5 ((refine wpY_q rfl rfl _ (fun w' hx' => by go_simp; try rfl) ?_; go_simp))
      refine wpY_nil ?_
      clear HB HM HK
      have hd := ((HC1.out.ext E1).nodes x (by simp)).pins
      rw [← HPE.out] at hd
      go_wp2
      go_ret
      exact ⟨rfl, _, ⟨m, e, N, _, HC1.out.ext E1, rfl, rfl⟩, Chg.of_ext (hx1.trans' E1), fun k hk => .inl hk⟩
    · have hp : unpC (ents N (A ++ x :: D)) (s, z) = (setP (ents N (A ++ x :: D)) A.length (p - 1), true) := by unfold unpC; rw [hat]; simp only; rw [hat2]; simp only; rw [if_neg (by rw [show (enOf (N x)).p = p from hpe.symm]; exact hcd), show (enOf (N x)).p = p from hpe.symm]
      rw [hp]
      obtain ⟨q1, q2⟩ := neI (x := (p : Int)) (y := 0) (by omega)
      have hnv : (p : Int) - 1 = ((p - 1 : Nat) : Int) := by omega
      have hle : p - 1 ≤ 1024 := by omega
      obtain ⟨np, hnp⟩ : ∃ np, np = p - 1 := ⟨_, rfl⟩
      rw [← hnp] at hnv hle ⊢
      have HNV := Lib.hid hnv
      have HPE := Lib.hid hpe
      clear hat hat2 hp hk hb hid hcd hnp hnv hpe
      go_enter Try.func24, Try.ntmps24
      go_wp2
      generalize w.alloc (.cells #[.int .u64 s, .int .i64 z] 45) = w1 at hx1 HC1 HH1 ⊢
      have HB := Lib.hid fun w' (h : Ext w1 w') => (HC1.out.ext h).box.map
      have HM := Lib.hid fun w' (h : Ext w1 w') => (HC1.out.ext h).map
      have HK := Lib.hid fun w' (h : Ext w1 w') => range_of_heap2 (h.heap' HH1.out)
      have E1 := Ext.drew' w1
      refine wp_region_e [] (.qs [0, 1, 2, 3, 4, 5, 6, 7, 8, 9, 10] .nil) (by kernel_rfl) (by kernel_rfl) ?_
      iterate 3 ((refine wpY_q rfl rfl _ (fun w' hx' => by go_simp; try rfl) ?_; go_simp))
      refine wpY_q rfl rfl (.map (some m)) (fun w' hx' => by have hb' := HB.out w' hx'; go_simp; try rfl) ?_
      go_simp
      refine wpY_ld rfl rfl (.tmp 3) rfl w.heap.size 0 rfl [.int .u64 s, .int .i64 z] _ HK.out Try.underlying45 rfl (by kernel_rfl) ?_
      refine wpY_look rfl rfl Try.kvI (.tmp 11) (.tmp 12) rfl Try.underlying76 (z := .pointer none) (fun w' => zero_of (by kernel_rfl) w') rfl HM.out k HKV.out.symm ?_
      rw [HV.out]
      iterate 5 ((refine wpY_q rfl rfl _ (fun w' hx' => by go_simp; try rfl) ?_; go_simp))
      refine wpY_nil ?_
      clear HB HM HK
      have hnode := (HC1.out.ext E1).nodes x (by simp)
      have hd := hnode.pins
      rw [← HPE.out] at hd
      obtain ⟨N', hC', hE'⟩ := (HC1.out.ext E1).setPins hle
      have HC' := Lib.hid hC'
      have HE' := Lib.hid hE'
      have HTH := Lib.hid (hnode.there (j := 5) (by decide))
      clear hnode hC' hE'
      go_wp2_with (first
        | ((with_reducible refine atStore 31 ?_); refine wpList_of_wp rfl (owp_st1 (o := ⟨none, _, _, _, _, _⟩) 3 _ _ rfl x 5 (.int .i64 ((p : Int) - 1)) rfl rfl rfl HTH.out (by kernel_rfl) rfl ?_))
        | fail)
      go_ret
      rw [HNV.out]
      refine ⟨rfl, _, ⟨m, e, N', _, HC'.out, HE'.out.symm, rfl⟩, ?_, fun k hk => .inl hk⟩
      exact (Chg.of_ext (hx1.trans' E1)).trans' (chg_set _ (by simp))
end Go.Proofs.Ytpiodpljiklfkaa
