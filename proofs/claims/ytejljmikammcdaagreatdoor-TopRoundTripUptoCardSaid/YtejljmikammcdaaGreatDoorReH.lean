/-
  Layer region: the closures of Reduce, slices.ContainsFunc of holes.
-/
import Derived.Test.YtejljmikammcdaaGreatDoorReG
namespace Go.Proofs.YtejljmikammcdaaGreatDoor
open Go.RowKit

theorem Tryz.elHole : Elem Tryz.prog 98 103 3 48 (.agg #[.slice none 0 0, .bool false, .string ByteArray.empty]) := ⟨Tryz.underlying98, by kernel_rfl, rfl, by decide⟩
abbrev hv (q : Pt) : Value := .agg #[.slice q.a q.n q.c, .bool q.P.rest, .string (bs (textP q.P))]
abbrev hbox (q : Pt) : Obj := .cells #[.slice q.a q.n q.c, .bool q.P.rest, .string (bs (textP q.P))] 103 (0, 0)
set_option maxHeartbeats 2000000 in
theorem Reduce2_any (x y : Pt) (W : World) : Calls Tryz.prog 49 #[hv x, hv y] W (PrO (textP x.P = textP y.P) W) := by
  have HX := Lib.hid (two_boxes W #[.slice x.a x.n x.c, .bool x.P.rest, .string (bs (textP x.P))] #[.slice y.a y.n y.c, .bool y.P.rest, .string (bs (textP y.P))] 103 103)
  obtain ⟨post, hpo⟩ : ∃ p : Ending → World → Prop, p = PrO (textP x.P = textP y.P) W := ⟨_, rfl⟩
  rw [← hpo]
  have HPO := Lib.hid hpo
  clear hpo
  go_enter Tryz.func49, Tryz.ntmps49
  go_upto_region 1 with fail
  generalize (W.alloc (.cells #[.slice x.a x.n x.c, .bool x.P.rest, .string (bs (textP x.P))] 103)).alloc (.cells #[.slice y.a y.n y.c, .bool y.P.rest, .string (bs (textP y.P))] 103) = w2 at HX ⊢
  obtain ⟨hx2, hh1, hh2⟩ := HX.out
  have HX2 := Lib.hid hx2
  have c0 := (box3 hh1).2.1
  have c1 := (box3 hh2).2.1
  generalize W.heap.size = b at c0 c1 ⊢
  clear hx2 hh1 hh2 HX
  go_wp2
  rw [HPO.out]
  exact ⟨textP x.P == textP y.P, rfl, beq_iff_eq, HX2.out⟩
/-- Another hole that the hole lies within. -/
def WitT (h q : Pt) : Prop := textP q.P ≠ textP h.P ∧ insideL h.P.parts h.P.rest q.P.parts q.P.rest = true
set_option maxRecDepth 100000 in
set_option maxHeartbeats 2000000 in
theorem Reduce3_any (q h : Pt) (g S : Nat) (W : World) (hq : PtI W S q) (hh : PtI W S h) (hS : S ≤ 1073741824) (hc : W.heap[g]? = some (hbox h)) :
    Calls Tryz.prog 50 #[hv q, .pointer (some ⟨g, 0, none⟩)] W (PrO (WitT h q) W) := by
  have HIN := Lib.hid fun w' (hx : Ext W w') => Inside_any h q S w' (hh.ext hx) (hq.ext hx) (by omega)
  obtain ⟨qa, qn, qc, qP⟩ := q
  obtain ⟨ha, hn, hc', hP⟩ := h
  have HX := Lib.hid (Ext.alloc' W (.cells #[.slice qa qn qc, .bool qP.rest, .string (bs (textP qP))] 103))
  have hn1 := heap_alloc_new W (.cells #[.slice qa qn qc, .bool qP.rest, .string (bs (textP qP))] 103)
  have hg1 : (W.alloc (.cells #[.slice qa qn qc, .bool qP.rest, .string (bs (textP qP))] 103)).heap[g]? = some (.cells #[.slice ha hn hc', .bool hP.rest, .string (bs (textP hP))] 103 (0, 0)) := HX.out.heap' hc
  obtain ⟨post, hpo⟩ : ∃ p : Ending → World → Prop, p = PrO (WitT ⟨ha, hn, hc', hP⟩ ⟨qa, qn, qc, qP⟩) W := ⟨_, rfl⟩
  show Calls _ _ _ _ (PrO (WitT ⟨ha, hn, hc', hP⟩ ⟨qa, qn, qc, qP⟩) W)
  rw [← hpo]
  have HPO := Lib.hid hpo
  obtain ⟨tq, htq⟩ : ∃ t, t = textP qP := ⟨_, rfl⟩
  obtain ⟨th, hth⟩ : ∃ t, t = textP hP := ⟨_, rfl⟩
  have HT := Lib.hid (show tq = th ↔ textP qP = textP hP by rw [htq, hth])
  show Calls _ _ #[.agg #[.slice qa qn qc, .bool qP.rest, .string (bs (textP qP))], .pointer (some ⟨g, 0, none⟩)] _ _
  rw [← htq] at HX hn1 hg1 ⊢
  rw [← hth] at hg1
  clear hpo htq hth hq hh hc
  go_enter Tryz.func50, Tryz.ntmps50
  go_upto_region 1 with fail
  change Code.wp _ _ _ _ (W.alloc (.cells #[.slice qa qn qc, .bool qP.rest, .string (bs tq)] 103))
  generalize W.alloc (.cells #[.slice qa qn qc, .bool qP.rest, .string (bs tq)] 103) = w1 at HX hn1 hg1 ⊢
  generalize W.heap.size = b at hn1 ⊢
  obtain ⟨hr13, c0, -⟩ := box3 hn1
  obtain ⟨hr11, c1, -⟩ := box3 hg1
  clear hn1 hg1
  by_cases ht : tq = th
  · have HTT := Lib.hid (HT.out.1 ht)
    subst ht
    go_wp2
    rw [HPO.out]
    exact ⟨false, rfl, ⟨(fun h => by cases h), fun h => absurd HTT.out h.1⟩, HX.out⟩
  · have q1 : (tq == th) = false := by simp [ht]
    have HTT := Lib.hid (fun h => ht (HT.out.2 h))
    clear ht
    go_wp2_with (first
      | ((with_reducible refine atSlot 11 ?_); refine wpList_of_wp rfl (wp_load_mid (op := ⟨some 11, _, _, _, _, _⟩) 39 _ rfl g 0 rfl [.slice ha hn hc', .bool hP.rest] _ hr11 Tryz.underlying39 rfl (by kernel_rfl) ?_); clear hr11)
      | ((with_reducible refine atSlot 13 ?_); refine wpList_of_wp rfl (wp_load_mid (op := ⟨some 13, _, _, _, _, _⟩) 39 _ rfl b 0 rfl [.slice qa qn qc, .bool qP.rest] _ hr13 Tryz.underlying39 rfl (by kernel_rfl) ?_); clear hr13)
      | (go_at_call 51; (with_reducible refine (HIN.out _ HX.out).mono ?_); rintro en w2 ⟨rfl, hx2⟩; have HX2 := Lib.hid (HX.out.trans' hx2); clear hx2)
      | fail)
    rw [HPO.out]
    exact ⟨_, rfl, ⟨fun h => ⟨HTT.out, h⟩, fun h => h.2⟩, HX2.out⟩
def IhRel (w : World) (L : List Pt) (T : Pt → Prop) (i : Value) (wr : World) : Prop := ∃ j : Nat, i = .int .i64 j ∧ j ≤ L.length ∧ (∀ (i : Nat) q, i < j → L[i]? = some q → ¬ T q) ∧ Ext w wr
set_option maxRecDepth 100000 in
set_option maxHeartbeats 4000000 in
theorem IndexH_any (g : Nat) (lb : Array Value) (eg : ∀ args w, (callFunc g args).run Tryz.prog w = .ok (.enter g args) w) (T : Pt → Prop) (a : Option Addr) (c : Nat) (L : List Pt) (w : World)
    (hr : Row w a L.length c 3 (L.flatMap encH)) (hp : ∀ q ∈ L, ∀ W, Ext w W → Calls Tryz.prog g (#[.agg #[.slice q.a q.n q.c, .bool q.P.rest, .string (bs (textP q.P))]] ++ lb) W (PrO (T q) W)) :
    Calls Tryz.prog 83 #[.slice a L.length c, .func (.func g) #[] lb] w (IxO (∃ q ∈ L, T q) w) := by
  have hmx : L.length ≤ 9223372036854775807 := by have h1 := hr.max; have h2 := hr.le; simp only [maxLen] at h1; omega
  have HROW := Lib.hid fun w' (h : Ext w w') => hr.ext h
  have HP := Lib.hid hp
  obtain ⟨post, hpo⟩ : ∃ q : Ending → World → Prop, q = IxO (∃ q ∈ L, T q) w := ⟨_, rfl⟩
  rw [← hpo]
  have HPO := Lib.hid hpo
  clear hpo hr hp
  go_enter Tryz.func83, Tryz.ntmps83
  go_upto_region 2 with fail
  go_loopw [8] (IhRel w L T) (fun i _ => L.length - (intOf i).toNat)
  case atStart => exact ⟨0, rfl, Nat.zero_le _, (fun i q h => by omega), Below.refl _ _⟩
  case round =>
    obtain ⟨j, rfl, hj, hall, hx⟩ := hrel
    rename World => wd
    have HXD := Lib.hid (show Ext w wd from hx)
    have HALL := Lib.hid hall
    clear hx hall
    by_cases hjl : j < L.length
    · obtain ⟨q, hq⟩ : ∃ q, L[j]? = some q := ⟨_, List.getElem?_eq_getElem hjl⟩
      have HQ := Lib.hid hq
      have hrow := HROW.out wd HXD.out
      have HI := Lib.hid (HP.out q (List.mem_of_getElem? hq) wd HXD.out)
      clear hq
      go_upto_if 16 with (first
        | ((with_reducible refine atSlot 14 ?_); refine wpList_of_wp rfl (owp_ix (o := ⟨some 14, _, _, _, _, _⟩) _ _ rfl Tryz.elHole rfl hrow j rfl rfl hjl ?_); intro b1 o1 hc2; have hd := flat_range encH_three HQ.out hc2; clear hc2 hrow)
        | ((with_reducible refine atSlot 15 ?_); refine wpList_of_wp rfl (wp_load_mid (op := ⟨some 15, _, _, _, _, _⟩) 103 _ rfl b1 o1 rfl [.slice q.a q.n q.c, .bool q.P.rest, .string (bs (textP q.P))] _ hd Tryz.underlying103 rfl (by kernel_rfl) ?_); clear hd)
        | (go_at_fn g; (with_reducible refine HI.out.mono ?_); rintro en we ⟨f, rfl, hf, hxe⟩; have HF := Lib.hid hf; have HXE := Lib.hid (HXD.out.trans' hxe); clear hf hxe)
        | fail)
      cases f with
      | true =>
        go_wp2
        rw [HPO.out]
        exact ⟨j, rfl, ⟨fun _ => ⟨q, List.mem_of_getElem? HQ.out, HF.out.1 (by first | rfl | trivial)⟩, fun _ => by omega⟩, HXE.out⟩
      | false =>
        have HNF := Lib.hid (show ¬ T q from fun h => by have := HF.out.2 h; cases this)
        go_wp2
        refine ⟨⟨j + 1, by go_num, hjl, (fun i r hi hr => ?_), HXE.out⟩, by simp [intOf]; omega⟩
        by_cases h : i < j
        · exact HALL.out i r h hr
        · obtain rfl : i = j := by omega
          rw [HQ.out] at hr; cases hr; exact HNF.out
    · obtain rfl : j = L.length := by omega
      go_wp2
      rw [HPO.out]
      exact ⟨-1, rfl, ⟨(fun h => by omega), fun ⟨q, hq, ht⟩ => by
        obtain ⟨i, hi⟩ := List.getElem?_of_mem hq
        exact absurd ht (HALL.out i q (List.getElem?_eq_some_iff.1 hi).1 hi)⟩, HXD.out⟩
set_option maxRecDepth 100000 in
set_option maxHeartbeats 4000000 in
theorem ContainsH_any (g : Nat) (lb : Array Value) (eg : ∀ args w, (callFunc g args).run Tryz.prog w = .ok (.enter g args) w) (T : Pt → Prop) (a : Option Addr) (c : Nat) (L : List Pt) (w : World)
    (hr : Row w a L.length c 3 (L.flatMap encH)) (hp : ∀ q ∈ L, ∀ W, Ext w W → Calls Tryz.prog g (#[.agg #[.slice q.a q.n q.c, .bool q.P.rest, .string (bs (textP q.P))]] ++ lb) W (PrO (T q) W)) :
    Calls Tryz.prog 52 #[.slice a L.length c, .func (.func g) #[] lb] w (PrO (∃ q ∈ L, T q) w) := by
  have HI := Lib.hid (IndexH_any g lb eg T a c L w hr hp)
  obtain ⟨post, hpo⟩ : ∃ q : Ending → World → Prop, q = PrO (∃ q ∈ L, T q) w := ⟨_, rfl⟩
  rw [← hpo]
  have HPO := Lib.hid hpo
  clear hpo hr hp
  go_enter Tryz.func52, Tryz.ntmps52
  go_wp2_with (first
    | (go_at_call 83; (with_reducible refine HI.out.mono ?_); rintro en w2 ⟨i, rfl, h2, hx2⟩; have H2 := Lib.hid h2; have HX2 := Lib.hid hx2; clear h2 hx2)
    | fail)
  rw [HPO.out]
  exact ⟨decide (0 ≤ i), rfl, by rw [decide_eq_true_eq]; exact H2.out, HX2.out⟩

end Go.Proofs.YtejljmikammcdaaGreatDoor
