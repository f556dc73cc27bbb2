/-
  Several texts in one: ReA, ReB, ReC, ReD, ReE.
-/
import Derived.Test.YtejljmikammcdaaGreatDoorJoined7
/-
  Layer region: Check, partAt, reaches, covers.
-/
namespace Go.Proofs.YtejljmikammcdaaGreatDoor
open Go.RowKit

/-! ### A list of patterns, a region in memory -/
structure PtsI (w : World) (S : Nat) (a : Option Addr) (c : Nat) (L : List Pt) : Prop where
  row : Row w a L.length c 2 (L.flatMap Pt.cells)
  each : ∀ q ∈ L, PtI w S q
theorem PtsI.ext {w w' : World} {S c : Nat} {a : Option Addr} {L : List Pt} (h : PtsI w S a c L) (hx : Ext w w') : PtsI w' S a c L := ⟨h.row.ext hx, fun q hq => (h.each q hq).ext hx⟩
theorem PtsI.mono {w : World} {S T c : Nat} {a : Option Addr} {L : List Pt} (h : PtsI w S a c L) (hs : S ≤ T) : PtsI w T a c L := ⟨h.row, fun q hq => (h.each q hq).mono hs⟩
theorem PtsI.nil (w : World) (S : Nat) : PtsI w S none 0 [] := ⟨Row.of_own (own_nil w 0 39 2), fun _ h => nomatch h⟩
structure PtsO (w : World) (B S : Nat) (a : Option Addr) (c : Nat) (L : List Pt) : Prop where
  own : w.ownsRow B 39 2 (.slice a L.length c) L.length (L.flatMap Pt.cells)
  each : ∀ q ∈ L, PtO w B S q
theorem PtsO.ext {w w' : World} {B S c : Nat} {a : Option Addr} {L : List Pt} (h : PtsO w B S a c L) (hx : Ext w w') : PtsO w' B S a c L := ⟨own_ext h.own hx, fun q hq => (h.each q hq).ext hx⟩
theorem PtsO.base {w : World} {B B' S c : Nat} {a : Option Addr} {L : List Pt} (h : PtsO w B' S a c L) (hB : B ≤ B') : PtsO w B S a c L := ⟨own_base h.own hB, fun q hq => (h.each q hq).base hB⟩
theorem PtsO.mono {w : World} {B S T c : Nat} {a : Option Addr} {L : List Pt} (h : PtsO w B S a c L) (hs : S ≤ T) : PtsO w B T a c L := ⟨h.own, fun q hq => (h.each q hq).mono hs⟩
theorem PtsO.i {w : World} {B S c : Nat} {a : Option Addr} {L : List Pt} (h : PtsO w B S a c L) : PtsI w S a c L := ⟨Row.of_own h.own, fun q hq => (h.each q hq).i⟩
theorem PtsO.nil (w : World) (B S : Nat) : PtsO w B S none 0 [] := ⟨own_nil w B 39 2, fun _ h => nomatch h⟩
structure Rg where
  b : Pt
  a : Option Addr
  c : Nat
  hs : List Pt
instance : Inhabited Rg := ⟨⟨default, none, 0, []⟩⟩
abbrev Rg.v (k : Rg) : Value := .agg #[.slice k.b.a k.b.n k.b.c, .bool k.b.P.rest, .slice k.a k.hs.length k.c]
structure RgI (w : World) (S : Nat) (k : Rg) : Prop where
  b : PtI w S k.b
  hs : PtsI w S k.a k.c k.hs
theorem RgI.ext {w w' : World} {S : Nat} {k : Rg} (h : RgI w S k) (hx : Ext w w') : RgI w' S k := ⟨h.b.ext hx, h.hs.ext hx⟩
theorem RgI.mono {w : World} {S T : Nat} {k : Rg} (h : RgI w S k) (hs : S ≤ T) : RgI w T k := ⟨h.b.mono hs, h.hs.mono hs⟩
structure RgO (w : World) (B S : Nat) (k : Rg) : Prop where
  b : PtO w B S k.b
  hs : PtsO w B S k.a k.c k.hs
theorem RgO.ext {w w' : World} {B S : Nat} {k : Rg} (h : RgO w B S k) (hx : Ext w w') : RgO w' B S k := ⟨h.b.ext hx, h.hs.ext hx⟩
theorem RgO.base {w : World} {B B' S : Nat} {k : Rg} (h : RgO w B' S k) (hB : B ≤ B') : RgO w B S k := ⟨h.b.base hB, h.hs.base hB⟩
theorem RgO.i {w : World} {B S : Nat} {k : Rg} (h : RgO w B S k) : RgI w S k := ⟨h.b.i, h.hs.i⟩
/-- A box of three cells. -/
theorem box3 {w : World} {g : Nat} {x y z : Value} {t : TypeId} {fr : Nat × Nat} (h : w.heap[g]? = some (.cells #[x, y, z] t fr)) :
    w.rangeAt g 0 [x, y] ∧ w.cell? ⟨g, 2, none⟩ = some z ∧ w.rangeAt g 0 [x, y, z] := by
  refine ⟨range_box h 0 _ ?_, by rw [cell_of_row w g 2 _ _ _ h]; rfl, range_box h 0 _ ?_⟩
  · intro j v hj
    match j, hj with
    | 0, hj => exact hj
    | 1, hj => exact hj
    | j + 2, hj => simp at hj
  · intro j v hj
    simpa using hj

/-- region.Check: what it answers. -/
def OkG (b : Pat) (hs : List Pt) : Prop := OkP b ∧ (∀ q ∈ hs, OkP q.P) ∧ hs.length ≤ 64
def GckO (b : Pat) (hs : List Pt) (w : World) (en : Ending) (w' : World) : Prop := ∃ e : Nat, en = .returned (.int .i64 (e : Nat)) ∧ (e = 0 ↔ OkG b hs) ∧ Ext w w'
def GcRel (w1 : World) (hs : List Pt) (i : Value) (wr : World) : Prop := ∃ j : Nat, i = .int .i64 j ∧ j ≤ hs.length ∧ (∀ (i : Nat) q, i < j → hs[i]? = some q → OkP q.P) ∧ Ext w1 wr
set_option maxRecDepth 100000 in
set_option maxHeartbeats 4000000 in
theorem GCheck_any (k : Rg) (S : Nat) (w : World) (hk : RgI w S k) (hS : S < 4611686018427387904) : Calls Tryz.prog 62 #[k.v] w (GckO k.b.P k.hs w) := by
  have HCB := Lib.hid fun w' (h : Ext w w') => Check_any k.b S w' (hk.b.ext h) hS
  have HCE := Lib.hid fun (q : Pt) (hq : q ∈ k.hs) w' (h : Ext w w') => Check_any q S w' ((hk.hs.each q hq).ext h) hS
  have HROW := Lib.hid fun w' (h : Ext w w') => hk.hs.row.ext h
  have hmx : k.hs.length ≤ 9223372036854775807 := by have h1 := hk.hs.row.max; have h2 := hk.hs.row.le; simp only [maxLen] at h1; omega
  have HOK := Lib.hid fun (P : Pat) => (show chkP P = 0 ↔ OkP P from okP_iff.symm.trans okP_of)
  clear hk
  obtain ⟨⟨ba, bn, bc, bP⟩, ha, hc, hs⟩ := k
  obtain ⟨post, hpo⟩ : ∃ q : Ending → World → Prop, q = GckO bP hs w := ⟨_, rfl⟩
  rw [← hpo]
  have HPO := Lib.hid hpo
  obtain ⟨e, he⟩ : ∃ e, e = chkP bP := ⟨_, rfl⟩
  have HCB' := Lib.hid (show ∀ w', Ext w w' → Calls Tryz.prog 75 #[.agg #[.slice ba bn bc, .bool bP.rest]] w' (NewNone (.int .i64 (e : Nat)) w') from by rw [he]; exact HCB.out)
  have HOB := Lib.hid (show e = 0 ↔ OkP bP from by rw [he]; exact HOK.out bP)
  have HX := Lib.hid (Ext.alloc' w (.cells #[.slice ba bn bc, .bool bP.rest, .slice ha hs.length hc] 55))
  have hh := heap_alloc_new w (.cells #[.slice ba bn bc, .bool bP.rest, .slice ha hs.length hc] 55)
  clear hpo he HCB
  go_enter Tryz.func62, Tryz.ntmps62
  go_upto_region 1 with fail
  change Code.wp _ _ _ _ (w.alloc (.cells #[.slice ba bn bc, .bool bP.rest, .slice ha hs.length hc] 55))
  generalize w.alloc (.cells #[.slice ba bn bc, .bool bP.rest, .slice ha hs.length hc] 55) = w1 at HX hh ⊢
  generalize w.heap.size = b at hh ⊢
  have HB := Lib.hid hh
  have hr6 := (box3 hh).1
  clear hh
  by_cases he0 : e ≠ 0
  · obtain ⟨q1, q2⟩ := neI (x := (e : Int)) (y := 0) (by omega)
    go_wp2_with (first
      | ((with_reducible refine atSlot 6 ?_); refine wpList_of_wp rfl (wp_load_mid (op := ⟨some 6, _, _, _, _, _⟩) 39 _ rfl b 0 rfl [.slice ba bn bc, .bool bP.rest] _ hr6 Tryz.underlying39 rfl (by kernel_rfl) ?_); clear hr6)
      | (go_at_call 75; (with_reducible refine (HCB'.out _ HX.out).mono ?_); rintro en w2 ⟨rfl, hx2⟩; have HX2 := Lib.hid (HX.out.trans' hx2); clear hx2)
      | fail)
    rw [HPO.out]
    exact ⟨50, rfl, ⟨(fun h => by cases h), fun h => absurd (HOB.out.2 h.1) he0⟩, HX2.out⟩
  replace he0 : e = 0 := by omega
  subst he0
  have HBO := Lib.hid (HOB.out.1 rfl)
  clear HOB
  go_upto_region 3 with (first
    | ((with_reducible refine atSlot 6 ?_); refine wpList_of_wp rfl (wp_load_mid (op := ⟨some 6, _, _, _, _, _⟩) 39 _ rfl b 0 rfl [.slice ba bn bc, .bool bP.rest] _ hr6 Tryz.underlying39 rfl (by kernel_rfl) ?_); clear hr6)
    | (go_at_call 75; (with_reducible refine (HCB'.out _ HX.out).mono ?_); rintro en w2 ⟨rfl, hx2⟩; have HX2 := Lib.hid (HX.out.trans' hx2); have HB2 := Lib.hid (hx2.heap' HB.out); clear hx2)
    | fail)
  obtain ⟨-, c2, -⟩ := box3 HB2.out
  go_upto_region 4 with fail
  clear c2
  go_loopw [12] (GcRel w2 hs) (fun i _ => hs.length - (intOf i).toNat)
  case atStart => exact ⟨0, rfl, Nat.zero_le _, (fun i q h => by omega), Below.refl _ _⟩
  case round =>
    obtain ⟨j, rfl, hj, hall, hx⟩ := hrel
    rename World => wd
    have HXD := Lib.hid (show Ext w2 wd from hx)
    have HALL := Lib.hid hall
    clear hx hall
    by_cases hjl : j < hs.length
    · obtain ⟨q, hq⟩ : ∃ q, hs[j]? = some q := ⟨_, List.getElem?_eq_getElem hjl⟩
      have HQ := Lib.hid hq
      have HXW := Lib.hid (HX2.out.trans' HXD.out)
      have hrow := HROW.out wd HXW.out
      obtain ⟨f, hf⟩ : ∃ f, f = chkP q.P := ⟨_, rfl⟩
      have HI := Lib.hid fun w' (h : Ext w w') => (show Calls Tryz.prog 75 #[.agg #[.slice q.a q.n q.c, .bool q.P.rest]] w' (NewNone (.int .i64 (f : Nat)) w') from by
        rw [hf]; exact HCE.out q (List.mem_of_getElem? hq) w' h)
      have HFO := Lib.hid (show f = 0 ↔ OkP q.P from by rw [hf]; exact HOK.out q.P)
      have HPN := Lib.hid (put_new wd #[.slice none 0 0, .bool false] #[.slice q.a q.n q.c, .bool q.P.rest] 39)
      have HNN := Lib.hid (heap_alloc_new wd (.cells #[.slice none 0 0, .bool false] 39))
      have hr16 := (box2 HPN.out.2).2.2
      clear hf hq
      by_cases hf0 : f = 0
      · subst hf0
        have HQO := Lib.hid (HFO.out.1 rfl)
        go_wp2_with (first
          | ((with_reducible refine atSlot 14 ?_); refine wpList_of_wp rfl (owp_ix (o := ⟨some 14, _, _, _, _, _⟩) _ _ rfl Tryz.elPat rfl hrow j rfl rfl hjl ?_); intro b1 o1 hc2; have hd := flat_range pt_two HQ.out hc2; clear hc2 hrow)
          | ((with_reducible refine atSlot 15 ?_); refine wpList_of_wp rfl (wp_load_mid (op := ⟨some 15, _, _, _, _, _⟩) 39 _ rfl b1 o1 rfl [.slice q.a q.n q.c, .bool q.P.rest] _ hd Tryz.underlying39 rfl (by kernel_rfl) ?_); clear hd)
          | ((with_reducible refine atStore 4 ?_); refine wpList_of_wp rfl (wp_store_row (o := ⟨none, _, _, _, _, _⟩) _ _ _ rfl wd.heap.size #[.slice q.a q.n q.c, .bool q.P.rest] rfl rfl _ _ HNN.out (by kernel_rfl) rfl (by simp [Value.oneCell']) ?_))
          | ((with_reducible refine atSlot 16 ?_); refine wpList_of_wp rfl (wp_load_mid (op := ⟨some 16, _, _, _, _, _⟩) 39 _ rfl wd.heap.size 0 rfl [.slice q.a q.n q.c, .bool q.P.rest] _ hr16 Tryz.underlying39 rfl (by kernel_rfl) ?_); clear hr16)
          | (go_at_call 75; (with_reducible refine (HI.out _ (HXW.out.trans' HPN.out.1)).mono ?_); rintro en we ⟨rfl, hxe⟩; have HXE := Lib.hid (HXD.out.trans' (HPN.out.1.trans' hxe)); clear hxe)
          | fail)
        go_roundw
        case rel => exact ⟨j + 1, by go_num, hjl, (fun i r hi hr => by
          by_cases h : i < j
          · exact HALL.out i r h hr
          · obtain rfl : i = j := by omega
            rw [HQ.out] at hr; cases hr; exact HQO.out), HXE.out⟩
        case measure => simp [intOf]; omega
      · obtain ⟨q1, q2⟩ := neI (x := (f : Int)) (y := 0) (by omega)
        go_wp2_with (first
          | ((with_reducible refine atSlot 14 ?_); refine wpList_of_wp rfl (owp_ix (o := ⟨some 14, _, _, _, _, _⟩) _ _ rfl Tryz.elPat rfl hrow j rfl rfl hjl ?_); intro b1 o1 hc2; have hd := flat_range pt_two HQ.out hc2; clear hc2 hrow)
          | ((with_reducible refine atSlot 15 ?_); refine wpList_of_wp rfl (wp_load_mid (op := ⟨some 15, _, _, _, _, _⟩) 39 _ rfl b1 o1 rfl [.slice q.a q.n q.c, .bool q.P.rest] _ hd Tryz.underlying39 rfl (by kernel_rfl) ?_); clear hd)
          | ((with_reducible refine atStore 4 ?_); refine wpList_of_wp rfl (wp_store_row (o := ⟨none, _, _, _, _, _⟩) _ _ _ rfl wd.heap.size #[.slice q.a q.n q.c, .bool q.P.rest] rfl rfl _ _ HNN.out (by kernel_rfl) rfl (by simp [Value.oneCell']) ?_))
          | ((with_reducible refine atSlot 16 ?_); refine wpList_of_wp rfl (wp_load_mid (op := ⟨some 16, _, _, _, _, _⟩) 39 _ rfl wd.heap.size 0 rfl [.slice q.a q.n q.c, .bool q.P.rest] _ hr16 Tryz.underlying39 rfl (by kernel_rfl) ?_); clear hr16)
          | (go_at_call 75; (with_reducible refine (HI.out _ (HXW.out.trans' HPN.out.1)).mono ?_); rintro en we ⟨rfl, hxe⟩; have HXE := Lib.hid (HXD.out.trans' (HPN.out.1.trans' hxe)); clear hxe)
          | fail)
        rw [HPO.out]
        exact ⟨51, rfl, ⟨(fun h => by cases h), fun h => absurd (HFO.out.2 (h.2.1 q (List.mem_of_getElem? HQ.out))) hf0⟩, HX2.out.trans' HXE.out⟩
    · obtain rfl : j = hs.length := by omega
      have HA := Lib.hid (show ∀ q ∈ hs, OkP q.P from fun q hq => by
        obtain ⟨i, hi⟩ := List.getElem?_of_mem hq
        exact HALL.out i q (List.getElem?_eq_some_iff.1 hi).1 hi)
      obtain ⟨-, c2, -⟩ := box3 (HXD.out.heap' HB2.out)
      by_cases h64 : 64 < hs.length
      · have h64' : (64 : Int) < (hs.length : Int) := by omega
        go_wp2
        rw [HPO.out]
        exact ⟨52, rfl, ⟨(fun h => by cases h), fun h => absurd h.2.2 (by omega)⟩, HX2.out.trans' HXD.out⟩
      · have h64' : ¬ (64 : Int) < (hs.length : Int) := by omega
        go_wp2
        rw [HPO.out]
        exact ⟨0, rfl, ⟨fun _ => ⟨HBO.out, HA.out, by omega⟩, fun _ => rfl⟩, HX2.out.trans' HXD.out⟩
end Go.Proofs.YtejljmikammcdaaGreatDoor
/-
  Layer region: partAt, reaches, covers.
-/
namespace Go.Proofs.YtejljmikammcdaaGreatDoor
open Go.RowKit

theorem Pt.max {w : World} {S : Nat} {k : Pt} (h : PtI w S k) : k.n ≤ 9223372036854775807 := by
  have h1 := h.row.max; have h2 := h.row.le; simp only [maxLen] at h1; omega
set_option maxRecDepth 100000 in
set_option maxHeartbeats 4000000 in
theorem partAt_any (k : Pt) (i S : Nat) (w : World) (hk : PtI w S k) (_ : i ≤ 4611686018427387904) :
    Calls Tryz.prog 115 #[k.v, .int .i64 (i : Nat)] w (NewNone (.string (bs (partAtL k.P.parts i))) w) := by
  have hmx := Pt.max hk
  obtain ⟨a, n, c, ⟨ps, pr⟩⟩ := k
  have HN := Lib.hid (show ps.length = n from hk.len)
  have HX := Lib.hid (Ext.alloc' w (.cells #[.slice a n c, .bool pr] 39))
  have hrow : Row (w.alloc (.cells #[.slice a n c, .bool pr] 39)) a n c 1 (ps.map sv) := hk.row.ext HX.out
  have hh := heap_alloc_new w (.cells #[.slice a n c, .bool pr] 39)
  obtain ⟨post, hpo⟩ : ∃ q : Ending → World → Prop, q = NewNone (.string (bs (partAtL ps i))) w := ⟨_, rfl⟩
  show Calls _ _ _ _ (NewNone (.string (bs (partAtL ps i))) w)
  rw [← hpo]
  have HPO := Lib.hid hpo
  clear hpo hk
  go_enter Tryz.func115, Tryz.ntmps115
  go_upto_region 1 with fail
  change Code.wp _ _ _ _ (w.alloc (.cells #[.slice a n c, .bool pr] 39))
  generalize w.alloc (.cells #[.slice a n c, .bool pr] 39) = w1 at HX hh hrow ⊢
  generalize w.heap.size = b at hh ⊢
  obtain ⟨c0, c1, -⟩ := box2 hh
  clear hh
  by_cases hin : i < n
  · obtain ⟨p, hp⟩ : ∃ p, ps[i]? = some p := ⟨_, List.getElem?_eq_getElem (by rw [HN.out]; exact hin)⟩
    have HV := Lib.hid (show partAtL ps i = p by unfold partAtL; rw [hp]; rfl)
    have HP := Lib.hid hp
    clear hp
    go_wp2_with (first
      | ((with_reducible refine atSlot 13 ?_); refine wpList_of_wp rfl (owp_ix (o := ⟨some 13, _, _, _, _, _⟩) _ _ rfl Tryz.elStr rfl hrow i rfl rfl hin ?_); intro b1 o1 hc2; have hd := sv_at HP.out hc2; clear hc2 hrow)
      | fail)
    rw [HPO.out, HV.out]
    exact ⟨rfl, HX.out⟩
  · have HV := Lib.hid (show partAtL ps i = [42] by unfold partAtL; rw [List.getElem?_eq_none (by rw [HN.out]; omega)]; rfl)
    go_wp2
    rw [HPO.out, HV.out]
    exact ⟨rfl, HX.out⟩

set_option maxRecDepth 100000 in
set_option maxHeartbeats 4000000 in
theorem reaches_any (k : Pt) (i S : Nat) (w : World) (hk : PtI w S k) (_ : i ≤ 4611686018427387904) :
    Calls Tryz.prog 85 #[k.v, .int .i64 (i : Nat)] w (NewNone (.bool (reachB k.P i)) w) := by
  have hmx := Pt.max hk
  obtain ⟨a, n, c, ⟨ps, pr⟩⟩ := k
  have HV := Lib.hid (show reachB ⟨ps, pr⟩ i = ((i == n && !pr) || (decide (n < i) && pr)) by rw [← (show ps.length = n from hk.len)]; rfl)
  have HX := Lib.hid (Ext.alloc' w (.cells #[.slice a n c, .bool pr] 39))
  have hh := heap_alloc_new w (.cells #[.slice a n c, .bool pr] 39)
  obtain ⟨post, hpo⟩ : ∃ q : Ending → World → Prop, q = NewNone (.bool (reachB ⟨ps, pr⟩ i)) w := ⟨_, rfl⟩
  show Calls _ _ _ _ (NewNone (.bool (reachB ⟨ps, pr⟩ i)) w)
  rw [← hpo]
  have HPO := Lib.hid hpo
  clear hpo hk
  go_enter Tryz.func85, Tryz.ntmps85
  go_upto_region 1 with fail
  change Code.wp _ _ _ _ (w.alloc (.cells #[.slice a n c, .bool pr] 39))
  generalize w.alloc (.cells #[.slice a n c, .bool pr] 39) = w1 at HX hh ⊢
  generalize w.heap.size = b at hh ⊢
  obtain ⟨c0, c1, -⟩ := box2 hh
  clear hh
  by_cases hin : i = n
  · have HU := Lib.hid (show reachB ⟨ps, pr⟩ i = !pr by rw [HV.out]; subst hin; simp)
    obtain ⟨q1, q2⟩ := eqI (x := (i : Int)) (y := (n : Int)) (by omega)
    have q3 : ¬ n < i := by omega
    have q4 : ¬ (n : Int) < (i : Int) := by omega
    clear hin HV
    cases pr with
    | true =>
      go_wp2
      rw [HPO.out, HU.out]
      exact ⟨rfl, HX.out⟩
    | false =>
      go_wp2
      rw [HPO.out, HU.out]
      exact ⟨rfl, HX.out⟩
  · have HU := Lib.hid (show reachB ⟨ps, pr⟩ i = (decide (n < i) && pr) by rw [HV.out]; simp [hin])
    obtain ⟨q1, q2⟩ := neI (x := (i : Int)) (y := (n : Int)) (by omega)
    clear hin HV
    by_cases hlt : n < i
    · have HU' := Lib.hid (show reachB ⟨ps, pr⟩ i = pr by rw [HU.out]; simp [hlt])
      have q4 : (n : Int) < (i : Int) := by omega
      clear HU
      go_wp2
      rw [HPO.out, HU'.out]
      exact ⟨rfl, HX.out⟩
    · have HU' := Lib.hid (show reachB ⟨ps, pr⟩ i = false by rw [HU.out]; simp [hlt])
      have q4 : ¬ (n : Int) < (i : Int) := by omega
      clear HU
      go_wp2
      rw [HPO.out, HU'.out]
      exact ⟨rfl, HX.out⟩

/-- region.covers (from 0): what it answers. -/
def CovO (h b : Pat) (n : Nat) (w : World) (en : Ending) (w' : World) : Prop := ∃ q : Bool, en = .returned (.bool q) ∧ (q = true ↔ coversL h.parts b.parts 0 n) ∧ Ext w w'
def CvRel (w2 : World) (hps bps : List Str) (n : Nat) (i : Value) (wr : World) : Prop := ∃ j : Nat, i = .int .i64 j ∧ j ≤ n ∧ j ≤ hps.length ∧ coversL hps bps 0 j ∧ Ext w2 wr
set_option maxRecDepth 100000 in
set_option maxHeartbeats 4000000 in
theorem covers_any (h b : Pt) (n S : Nat) (w : World) (hh : PtI w S h) (hb : PtI w S b) (hn : n ≤ 4611686018427387904) (hS : S ≤ 1073741824) :
    Calls Tryz.prog 86 #[h.v, b.v, .int .i64 0, .int .i64 (n : Nat)] w (CovO h.P b.P n w) := by
  have hmx := Pt.max hh
  have HPA := Lib.hid fun i w' (hx : Ext w w') (hi : i ≤ 4611686018427387904) => partAt_any b i S w' (hb.ext hx) hi
  obtain ⟨ha, hl, hc, ⟨hps, hr⟩⟩ := h
  obtain ⟨ba, bn, bc, ⟨bps, br⟩⟩ := b
  have HN := Lib.hid (show hps.length = hl from hh.len)
  have HSH := Lib.hid (show ∀ p ∈ hps, p.length ≤ S from hh.small)
  have HSB := Lib.hid (show ∀ i, (partAtL bps i).length ≤ S + 1 from fun i => by
    unfold partAtL
    cases hg : bps[i]? with
    | none => simp
    | some p => have := hb.small p (List.mem_of_getElem? hg); simp; omega)
  have HROW := Lib.hid fun w' (hx : Ext w w') => (show Row w' ha hl hc 1 (hps.map sv) from hh.row.ext hx)
  obtain ⟨post, hpo⟩ : ∃ q : Ending → World → Prop, q = CovO ⟨hps, hr⟩ ⟨bps, br⟩ n w := ⟨_, rfl⟩
  rw [← hpo]
  have HPO := Lib.hid hpo
  have HX := Lib.hid (two_boxes w #[.slice ha hl hc, .bool hr] #[.slice ba bn bc, .bool br] 39 39)
  clear hpo hh hb
  go_enter Tryz.func86, Tryz.ntmps86
  go_upto_region 1 with fail
  generalize (w.alloc (.cells #[.slice ha hl hc, .bool hr] 39)).alloc (.cells #[.slice ba bn bc, .bool br] 39) = w2 at HX ⊢
  obtain ⟨hx2, hh1, hh2⟩ := HX.out
  have HX2 := Lib.hid hx2
  have HB1 := Lib.hid hh1
  have HB2 := Lib.hid hh2
  generalize w.heap.size = b at HB1 HB2 ⊢
  clear hx2 hh1 hh2 HX
  go_upto_region 2 with fail
  go_loopw [9] (CvRel w2 hps bps n) (fun i _ => n - (intOf i).toNat)
  case atStart => exact ⟨0, rfl, Nat.zero_le _, Nat.zero_le _, (fun i _ h => by omega), Below.refl _ _⟩
  case round =>
    obtain ⟨j, rfl, hj, hjl, hco, hx⟩ := hrel
    rename World => wd
    have HXD := Lib.hid (show Ext w2 wd from hx)
    have HCO := Lib.hid hco
    clear hx hco
    replace hjl : j ≤ hl := by rw [← HN.out]; exact hjl
    by_cases hjn : j < n
    · obtain ⟨c0, -, -⟩ := box2 (HXD.out.heap' HB1.out)
      by_cases hjh : j < hl
      · obtain ⟨p, hp⟩ : ∃ p, hps[j]? = some p := ⟨_, List.getElem?_eq_getElem (by rw [HN.out]; exact hjh)⟩
        have HP := Lib.hid hp
        have E3 := Ext.drew' wd
        have hx3 := HXD.out.trans' E3
        have HX3 := Lib.hid hx3
        have HC0 := Lib.hid fun w' (h : Ext w2 w') => cell_of_row w' b 0 _ _ _ (h.heap' HB1.out)
        have HC2 := Lib.hid fun w' (h : Ext w2 w') => (show w'.cell? ⟨b + 1, 0, none⟩ = some (.slice ba bn bc) ∧ w'.cell? ⟨b + 1, 1, none⟩ = some (.bool br) from ⟨(box2 (h.heap' HB2.out)).1, (box2 (h.heap' HB2.out)).2.1⟩)
        have hj62 : j ≤ 4611686018427387904 := by omega
        obtain ⟨f, hf⟩ : ∃ f, f = within1 (partAtL bps j) p := ⟨_, rfl⟩
        have HPW := Lib.hid fun w' => (show Calls Tryz.prog 82 #[.string (bs (partAtL bps j)), .string (bs p)] w' (NewNone (.bool f) w') from by
          rw [hf]; exact PartWithin_any _ _ w' (by have := HSB.out j; omega) (by have := HSH.out p (List.mem_of_getElem? hp); omega))
        have HF := Lib.hid hf
        clear hp hx3 hf
        go_upto_region 4 with fail
        refine wp_region_z (fun w' => Ext w2 w') HX3.out [] (.qs [0, 1, 3, 4, 5, 6, 7] (.l 2 (.l 8 (.qs [9] .nil)))) (by kernel_rfl) (by kernel_rfl) ?_
        refine wpZ_q rfl rfl (.agg #[.slice ba bn bc, .bool br]) (fun w' hx' => by obtain ⟨d0, d1⟩ := HC2.out w' hx'; go_simp; try rfl) ?_
        go_simp
        ((refine wpZ_q rfl rfl _ (fun w' hx' => by go_simp; try rfl) ?_; go_simp))
        ((refine wpZ_q rfl rfl _ (fun w' hx' => by go_simp; try rfl) ?_; go_simp))
        refine wpZ_q rfl rfl (.slice ha hl hc) (fun w' hx' => by have hb' := HC0.out w' hx'; go_simp; try rfl) ?_
        go_simp
        ((refine wpZ_q rfl rfl _ (fun w' hx' => by go_simp; try rfl) ?_; go_simp))
        refine wpZ_ix rfl rfl (.tmp 27) (.tmp 28) rfl Tryz.elStr rfl (fun w' h => HROW.out w' (HX2.out.trans' h)) HX3.out j rfl rfl hjh ?_
        intro b4 o4 hc4
        have HC4 := Lib.hid hc4
        clear hc4
        go_simp
        refine wpZ_q rfl rfl (.string (bs p)) (fun w' hx' => by have hb' := sv_at HP.out (fun i hi => HC4.out i hi w' hx'); go_simp; try rfl) ?_
        go_simp
        refine wpZ_l rfl rfl ?_
        go_simp
        refine (HPA.out j _ (HX2.out.trans' HX3.out) hj62).mono ?_
        rintro en w4 ⟨rfl, hx4⟩
        have HX4 := Lib.hid (HX3.out.trans' hx4)
        refine ⟨HX4.out, ?_⟩
        clear hx4
        go_simp
        refine wpZ_l rfl rfl ?_
        go_simp
        refine (HPW.out _).mono ?_
        rintro en w5 ⟨rfl, hx5⟩
        have HX5 := Lib.hid (HX4.out.trans' hx5)
        refine ⟨HX5.out, ?_⟩
        clear hx5
        go_simp
        ((refine wpZ_q rfl rfl _ (fun w' hx' => by go_simp; try rfl) ?_; go_simp))
        refine wpZ_nil ?_
        cases f with
        | true =>
          go_wp2
          refine ⟨⟨j + 1, by go_num, hjn, by rw [HN.out]; exact hjh, (fun i h0 hi q hq => ?_), HX5.out⟩, ?_⟩
          · by_cases hij : i < j
            · exact HCO.out i h0 hij q hq
            · obtain rfl : i = j := by omega
              rw [HP.out] at hq; cases hq; exact HF.out.symm
          · simp [intOf]; omega
        | false =>
          go_wp2
          rw [HPO.out]
          exact ⟨false, rfl, ⟨(fun h => by cases h), fun h => by
            have h1 := h j (Nat.zero_le _) hjn p HP.out
            rw [← HF.out] at h1; exact h1⟩, HX2.out.trans' HX5.out⟩
      · have HFIN := Lib.hid (show coversL hps bps 0 n from fun i h0 hi p hp => by
          have h1 := (List.getElem?_eq_some_iff.1 hp).1
          rw [HN.out] at h1
          exact HCO.out i h0 (by omega) p hp)
        go_wp2
        rw [HPO.out]
        exact ⟨true, rfl, ⟨fun _ => HFIN.out, fun _ => rfl⟩, HX2.out.trans' HXD.out⟩
    · obtain rfl : j = n := by omega
      go_wp2
      rw [HPO.out]
      exact ⟨true, rfl, ⟨fun _ => HCO.out, fun _ => rfl⟩, HX2.out.trans' HXD.out⟩
end Go.Proofs.YtejljmikammcdaaGreatDoor
/-
  Layer region: slices.ContainsFunc of patterns, leastLength, Void.
-/
namespace Go.Proofs.YtejljmikammcdaaGreatDoor
open Go.RowKit

/-- What a predicate answers: whether T holds. -/
def PrO (T : Prop) (w : World) (en : Ending) (w' : World) : Prop := ∃ q : Bool, en = .returned (.bool q) ∧ (q = true ↔ T) ∧ Ext w w'
/-- What an index answers. -/
def IxO (T : Prop) (w : World) (en : Ending) (w' : World) : Prop := ∃ i : Int, en = .returned (.int .i64 i) ∧ (0 ≤ i ↔ T) ∧ Ext w w'
def IfRel (w : World) (L : List Pt) (T : Pt → Prop) (i : Value) (wr : World) : Prop := ∃ j : Nat, i = .int .i64 j ∧ j ≤ L.length ∧ (∀ (i : Nat) q, i < j → L[i]? = some q → ¬ T q) ∧ Ext w wr
set_option maxRecDepth 100000 in
set_option maxHeartbeats 4000000 in
theorem IndexP_any (g : Nat) (lb : Array Value) (eg : ∀ args w, (callFunc g args).run Tryz.prog w = .ok (.enter g args) w) (T : Pt → Prop) (a : Option Addr) (c : Nat) (L : List Pt) (w : World)
    (hr : Row w a L.length c 2 (L.flatMap Pt.cells)) (hp : ∀ q ∈ L, ∀ W, Ext w W → Calls Tryz.prog g (#[q.v] ++ lb) W (PrO (T q) W)) :
    Calls Tryz.prog 93 #[.slice a L.length c, .func (.func g) #[] lb] w (IxO (∃ q ∈ L, T q) w) := by
  have hmx : L.length ≤ 9223372036854775807 := by have h1 := hr.max; have h2 := hr.le; simp only [maxLen] at h1; omega
  have HROW := Lib.hid fun w' (h : Ext w w') => hr.ext h
  have HP := Lib.hid hp
  obtain ⟨post, hpo⟩ : ∃ q : Ending → World → Prop, q = IxO (∃ q ∈ L, T q) w := ⟨_, rfl⟩
  rw [← hpo]
  have HPO := Lib.hid hpo
  clear hpo hr hp
  go_enter Tryz.func93, Tryz.ntmps93
  go_upto_region 2 with fail
  go_loopw [8] (IfRel w L T) (fun i _ => L.length - (intOf i).toNat)
  case atStart => exact ⟨0, rfl, Nat.zero_le _, (fun i q h => by omega), Below.refl _ _⟩
  case round =>
    obtain ⟨j, rfl, hj, hall, hx⟩ := hrel
    rename World => wd
    have HXD := Lib.hid (show Ext w wd from hx)
    have HALL := Lib.hid hall
    clear hx hall
    by_cases hjl : j < L.length
    · obtain ⟨q, hq⟩ : ∃ q, L[j]? = some q := ⟨_, List.getElem?_eq_getElem hjl⟩
      have HQ := Lib.hid hq
      have hrow := HROW.out wd HXD.out
      have HI := Lib.hid (HP.out q (List.mem_of_getElem? hq) wd HXD.out)
      clear hq
      go_upto_if 16 with (first
        | ((with_reducible refine atSlot 14 ?_); refine wpList_of_wp rfl (owp_ix (o := ⟨some 14, _, _, _, _, _⟩) _ _ rfl Tryz.elPat rfl hrow j rfl rfl hjl ?_); intro b1 o1 hc2; have hd := flat_range pt_two HQ.out hc2; clear hc2 hrow)
        | ((with_reducible refine atSlot 15 ?_); refine wpList_of_wp rfl (wp_load_mid (op := ⟨some 15, _, _, _, _, _⟩) 39 _ rfl b1 o1 rfl [.slice q.a q.n q.c, .bool q.P.rest] _ hd Tryz.underlying39 rfl (by kernel_rfl) ?_); clear hd)
        | (go_at_fn g; (with_reducible refine HI.out.mono ?_); rintro en we ⟨f, rfl, hf, hxe⟩; have HF := Lib.hid hf; have HXE := Lib.hid (HXD.out.trans' hxe); clear hf hxe)
        | fail)
      cases f with
      | true =>
        go_wp2
        rw [HPO.out]
        exact ⟨j, rfl, ⟨fun _ => ⟨q, List.mem_of_getElem? HQ.out, HF.out.1 (by first | rfl | trivial)⟩, fun _ => by omega⟩, HXE.out⟩
      | false =>
        have HNF := Lib.hid (show ¬ T q from fun h => by have := HF.out.2 h; cases this)
        go_wp2
        refine ⟨⟨j + 1, by go_num, hjl, (fun i r hi hr => ?_), HXE.out⟩, by simp [intOf]; omega⟩
        by_cases h : i < j
        · exact HALL.out i r h hr
        · obtain rfl : i = j := by omega
          rw [HQ.out] at hr; cases hr; exact HNF.out
    · obtain rfl : j = L.length := by omega
      go_wp2
      rw [HPO.out]
      exact ⟨-1, rfl, ⟨(fun h => by omega), fun ⟨q, hq, ht⟩ => by
        obtain ⟨i, hi⟩ := List.getElem?_of_mem hq
        exact absurd ht (HALL.out i q (List.getElem?_eq_some_iff.1 hi).1 hi)⟩, HXD.out⟩
set_option maxRecDepth 100000 in
set_option maxHeartbeats 4000000 in
theorem ContainsP_any (g : Nat) (lb : Array Value) (eg : ∀ args w, (callFunc g args).run Tryz.prog w = .ok (.enter g args) w) (T : Pt → Prop) (a : Option Addr) (c : Nat) (L : List Pt) (w : World)
    (hr : Row w a L.length c 2 (L.flatMap Pt.cells)) (hp : ∀ q ∈ L, ∀ W, Ext w W → Calls Tryz.prog g (#[q.v] ++ lb) W (PrO (T q) W)) :
    Calls Tryz.prog 65 #[.slice a L.length c, .func (.func g) #[] lb] w (PrO (∃ q ∈ L, T q) w) := by
  have HI := Lib.hid (IndexP_any g lb eg T a c L w hr hp)
  obtain ⟨post, hpo⟩ : ∃ q : Ending → World → Prop, q = PrO (∃ q ∈ L, T q) w := ⟨_, rfl⟩
  rw [← hpo]
  have HPO := Lib.hid hpo
  clear hpo hr hp
  go_enter Tryz.func65, Tryz.ntmps65
  go_wp2_with (first
    | (go_at_call 93; (with_reducible refine HI.out.mono ?_); rintro en w2 ⟨i, rfl, h2, hx2⟩; have H2 := Lib.hid h2; have HX2 := Lib.hid hx2; clear h2 hx2)
    | fail)
  rw [HPO.out]
  exact ⟨decide (0 ≤ i), rfl, by rw [decide_eq_true_eq]; exact H2.out, HX2.out⟩

/-! ### leastLength -/
def CovT (B : Pat) (n : Nat) (q : Pt) : Prop := reachB q.P n = true ∧ coversL q.P.parts B.parts 0 n
set_option maxRecDepth 100000 in
set_option maxHeartbeats 4000000 in
theorem least1_any (q k : Pt) (n gn gb S : Nat) (W : World) (hq : PtI W S q) (hk : PtI W S k) (hn : n ≤ 4611686018427387904) (hS : S ≤ 1073741824) (hcn : W.heap[gn]? = some (.cells #[.int .i64 (n : Nat)] 3)) (hcb : W.heap[gb]? = some (pbox k)) :
    Calls Tryz.prog 84 #[q.v, .pointer (some ⟨gn, 0, none⟩), .pointer (some ⟨gb, 0, none⟩)] W (PrO (CovT k.P n q) W) := by
  have HRE := Lib.hid fun w' (h : Ext W w') => reaches_any q n S w' (hq.ext h) hn
  have HCO := Lib.hid fun w' (h : Ext W w') => covers_any q k n S w' (hq.ext h) (hk.ext h) hn hS
  obtain ⟨qa, qn, qc, qP⟩ := q
  obtain ⟨ka, kn, kc, kP⟩ := k
  have HX := Lib.hid (Ext.alloc' W (.cells #[.slice qa qn qc, .bool qP.rest] 39))
  have hh := heap_alloc_new W (.cells #[.slice qa qn qc, .bool qP.rest] 39)
  obtain ⟨f, hf⟩ : ∃ f, f = reachB qP n := ⟨_, rfl⟩
  have HRE' := Lib.hid (show ∀ w', Ext W w' → Calls Tryz.prog 85 #[.agg #[.slice qa qn qc, .bool qP.rest], .int .i64 (n : Nat)] w' (NewNone (.bool f) w') from by rw [hf]; exact HRE.out)
  have HF := Lib.hid hf
  have HCN := Lib.hid hcn
  have HCB := Lib.hid (show W.heap[gb]? = some (.cells #[.slice ka kn kc, .bool kP.rest] 39) from hcb)
  obtain ⟨post, hpo⟩ : ∃ p : Ending → World → Prop, p = PrO (CovT kP n ⟨qa, qn, qc, qP⟩) W := ⟨_, rfl⟩
  show Calls _ _ _ _ (PrO (CovT kP n ⟨qa, qn, qc, qP⟩) W)
  rw [← hpo]
  have HPO := Lib.hid hpo
  clear hpo hf hcn hcb hq hk HRE
  go_enter Tryz.func84, Tryz.ntmps84
  go_upto_region 1 with fail
  change Code.wp _ _ _ _ (W.alloc (.cells #[.slice qa qn qc, .bool qP.rest] 39))
  generalize W.alloc (.cells #[.slice qa qn qc, .bool qP.rest] 39) = w1 at HX hh ⊢
  generalize W.heap.size = b at hh ⊢
  have HB := Lib.hid hh
  have hr5 := (box2 hh).2.2
  have hcn := cell_of_row w1 gn 0 _ _ _ (HX.out.heap' HCN.out)
  replace hcn : w1.cell? ⟨gn, 0, none⟩ = some (.int .i64 (n : Nat)) := hcn
  clear hh
  cases f with
  | true =>
    go_wp2_with (first
      | ((with_reducible refine atSlot 5 ?_); refine wpList_of_wp rfl (wp_load_mid (op := ⟨some 5, _, _, _, _, _⟩) 39 _ rfl b 0 rfl [.slice qa qn qc, .bool qP.rest] _ hr5 Tryz.underlying39 rfl (by kernel_rfl) ?_); clear hr5)
      | (go_at_call 85; (with_reducible refine (HRE'.out _ HX.out).mono ?_); rintro en w2 ⟨rfl, hx2⟩; have HX2 := Lib.hid (HX.out.trans' hx2); have hr9 := (box2 (hx2.heap' HB.out)).2.2; have hr10 := (box2 ((HX.out.trans' hx2).heap' HCB.out)).2.2; have hcn2 := (show w2.cell? ⟨gn, 0, none⟩ = some (.int .i64 (n : Nat)) from cell_of_row w2 gn 0 _ _ _ ((HX.out.trans' hx2).heap' HCN.out)); clear hx2 hcn)
      | ((with_reducible refine atSlot 9 ?_); refine wpList_of_wp rfl (wp_load_mid (op := ⟨some 9, _, _, _, _, _⟩) 39 _ rfl b 0 rfl [.slice qa qn qc, .bool qP.rest] _ hr9 Tryz.underlying39 rfl (by kernel_rfl) ?_); clear hr9)
      | ((with_reducible refine atSlot 10 ?_); refine wpList_of_wp rfl (wp_load_mid (op := ⟨some 10, _, _, _, _, _⟩) 39 _ rfl gb 0 rfl [.slice ka kn kc, .bool kP.rest] _ hr10 Tryz.underlying39 rfl (by kernel_rfl) ?_); clear hr10)
      | (go_at_call 86; (with_reducible refine (HCO.out _ HX2.out).mono ?_); rintro en w3 ⟨r, rfl, h3, hx3⟩; have H3 := Lib.hid h3; have HX3 := Lib.hid (HX2.out.trans' hx3); clear h3 hx3)
      | fail)
    rw [HPO.out]
    exact ⟨r, rfl, ⟨fun h => ⟨HF.out.symm, H3.out.1 h⟩, fun h => H3.out.2 h.2⟩, HX3.out⟩
  | false =>
    go_wp2_with (first
      | ((with_reducible refine atSlot 5 ?_); refine wpList_of_wp rfl (wp_load_mid (op := ⟨some 5, _, _, _, _, _⟩) 39 _ rfl b 0 rfl [.slice qa qn qc, .bool qP.rest] _ hr5 Tryz.underlying39 rfl (by kernel_rfl) ?_); clear hr5)
      | (go_at_call 85; (with_reducible refine (HRE'.out _ HX.out).mono ?_); rintro en w2 ⟨rfl, hx2⟩; have HX2 := Lib.hid (HX.out.trans' hx2); clear hx2)
      | fail)
    rw [HPO.out]
    exact ⟨false, rfl, ⟨(fun h => by cases h), fun h => by have h1 := h.1; rw [← HF.out] at h1; exact h1⟩, HX2.out⟩
end Go.Proofs.YtejljmikammcdaaGreatDoor
/-
  Layer region: leastLength, Void.
-/
namespace Go.Proofs.YtejljmikammcdaaGreatDoor
open Go.RowKit

/-- All paths of the base match a hole, as far as the program sees it. -/
def VoidT (B : Pat) (L : List Pt) : Prop := ∀ n, firstLen B ≤ n → n ≤ lastLen B (L.map Pt.P) → ∃ q ∈ L, CovT B n q
def LlO (B : Pat) (L : List Pt) (w : World) (en : Ending) (w' : World) : Prop := ∃ v : Nat, en = .returned (.int .i64 (v : Nat)) ∧ (v = 0 ↔ VoidT B L) ∧ Ext w w'
def mxL (m : Nat) (L : List Pt) : Nat := (L.map Pt.P).foldl (fun m h => max m (h.parts.length + 1)) m
theorem mxL_step {L : List Pt} {j : Nat} {q : Pt} (m : Nat) (h : L[j]? = some q) : mxL m (L.take (j + 1)) = max (mxL m (L.take j)) (q.P.parts.length + 1) := by
  unfold mxL
  rw [List.take_add_one, h, List.map_append, List.foldl_append]
  rfl
theorem mxL_le (B : Nat) : ∀ (L : List Pt) (m : Nat), m ≤ B → (∀ q ∈ L, q.P.parts.length + 1 ≤ B) → mxL m L ≤ B
  | [], _, h, _ => h
  | q :: L, m, h, hq => mxL_le B L (max m (q.P.parts.length + 1)) (Nat.max_le.2 ⟨h, hq q (List.mem_cons_self ..)⟩) (fun x hx => hq x (List.mem_cons_of_mem _ hx))
theorem mxL_ge : ∀ (L : List Pt) (m : Nat), m ≤ mxL m L
  | [], _ => Nat.le_refl _
  | q :: L, m => Nat.le_trans (Nat.le_max_left ..) (mxL_ge L (max m (q.P.parts.length + 1)))
def MxRel (w2 : World) (L : List Pt) (m : Nat) (v i : Value) (wr : World) : Prop := ∃ j : Nat, i = .int .i64 j ∧ j ≤ L.length ∧ v = .int .i64 (mxL m (L.take j) : Nat) ∧ Ext w2 wr
def LnRel (w2 : World) (B : Pat) (L : List Pt) (fi la n : Nat) (v : Value) (wr : World) : Prop := ∃ g : Nat, v = .pointer (some ⟨g, 0, none⟩) ∧ fi ≤ n ∧ n ≤ la + 1 ∧ (∀ i, fi ≤ i → i < n → ∃ q ∈ L, CovT B i q) ∧ wr.heap[g]? = some (.cells #[.int .i64 (n : Nat)] 3) ∧ w2.heap.size ≤ g ∧ Ext w2 wr
set_option maxRecDepth 100000 in
set_option maxHeartbeats 4000000 in
theorem leastLength_any (k : Pt) (a : Option Addr) (c : Nat) (L : List Pt) (S : Nat) (w : World) (hk : PtI w S k) (hl : PtsI w S a c L) (hS : S ≤ 1073741824) (hok : OkP k.P) (hol : ∀ q ∈ L, OkP q.P) :
    Calls Tryz.prog 53 #[k.v, .slice a L.length c] w (LlO k.P L w) := by
  have hmx : L.length ≤ 9223372036854775807 := by have h1 := hl.row.max; have h2 := hl.row.le; simp only [maxLen] at h1; omega
  have HROW := Lib.hid fun w' (h : Ext w w') => hl.row.ext h
  have HK := Lib.hid hk
  have HEA := Lib.hid hl.each
  have HLE := Lib.hid (show ∀ q ∈ L, q.P.parts.length + 1 ≤ 13 ∧ q.n ≤ 12 ∧ q.P.parts.length = q.n from fun q hq => by have h1 := (hol q hq).le; have h2 := (hl.each q hq).len; omega)
  have HKN := Lib.hid hk.len
  have hkn : k.n ≤ 12 ∧ 0 < k.n := by
    rw [← hk.len]
    obtain ⟨b, ps, hb, -⟩ := hok.head
    exact ⟨hok.le, by rw [hb]; simp⟩
  obtain ⟨hk12, hk0⟩ := hkn
  have eg : ∀ args w, (callFunc 84 args).run Tryz.prog w = .ok (.enter 84 args) w := enters_of Tryz.func84 (by kernel_rfl) rfl
  have HEG := Lib.hid eg
  clear hk hl hok hol eg
  obtain ⟨ka, kn, kc, kP⟩ := k
  obtain ⟨fi, hfi⟩ : ∃ x, x = firstLen kP := ⟨_, rfl⟩
  obtain ⟨la, hla⟩ : ∃ x, x = lastLen kP (L.map Pt.P) := ⟨_, rfl⟩
  have HV := Lib.hid (show VoidT kP L ↔ ∀ n, fi ≤ n → n ≤ la → ∃ q ∈ L, CovT kP n q by rw [hfi, hla]; exact Iff.rfl)
  have HFI := Lib.hid (show fi = if kP.rest then kn + 1 else kn by rw [hfi]; unfold firstLen; rw [show kP.parts.length = kn from HKN.out])
  have HLA := Lib.hid (show la = if kP.rest then mxL (kn + 1) L else kn by rw [hla]; unfold lastLen mxL; rw [show kP.parts.length = kn from HKN.out])
  obtain ⟨post, hpo⟩ : ∃ p : Ending → World → Prop, p = LlO kP L w := ⟨_, rfl⟩
  show Calls _ _ _ _ (LlO kP L w)
  rw [← hpo]
  have HPO := Lib.hid hpo
  have HX := Lib.hid (Ext.alloc' w (.cells #[.slice ka kn kc, .bool kP.rest] 39))
  have hh := heap_alloc_new w (.cells #[.slice ka kn kc, .bool kP.rest] 39)
  have hb13 : fi ≤ 13 ∧ la ≤ 13 ∧ 0 < fi ∧ fi ≤ la := by
    rw [HFI.out, HLA.out]
    cases kP.rest with
    | true =>
      have := mxL_le 13 L (kn + 1) (by simp only at hk12; omega) (fun q hq => (HLE.out q hq).1)
      have h2 := mxL_ge L (kn + 1)
      simp only [if_true]; simp only at hk12 hk0; omega
    | false => simp only [Bool.false_eq_true, if_false]; simp only at hk12 hk0; omega
  obtain ⟨hfi13, hla13, hfi0, hfl⟩ := hb13
  clear hpo hfi hla
  go_enter Tryz.func53, Tryz.ntmps53
  go_upto_region 1 with fail
  change Code.wp _ _ _ _ (w.alloc (.cells #[.slice ka kn kc, .bool kP.rest] 39))
  generalize w.alloc (.cells #[.slice ka kn kc, .bool kP.rest] 39) = w1 at HX hh ⊢
  generalize w.heap.size = b at hh ⊢
  have HB := Lib.hid hh
  have HB0 := Lib.hid fun w' (h : Ext w1 w') => cell_of_row w' b 0 _ _ _ (h.heap' hh)
  have E2 := Lib.hid (Ext.drew' w1)
  clear hh
  refine wp_region_e [] (.qs [0, 1, 2, 3, 4, 5, 6, 7] .nil) (by kernel_rfl) (by kernel_rfl) ?_
  ((refine wpY_q rfl rfl _ (fun w' hx' => by go_simp; try rfl) ?_; go_simp))
  refine wpY_q rfl rfl (.slice ka kn kc) (fun w' hx' => by have hb' := HB0.out w' hx'; go_simp; try rfl) ?_
  go_simp
  iterate 2 ((refine wpY_q rfl rfl _ (fun w' hx' => by go_simp; try rfl) ?_; go_simp))
  refine wpY_q rfl rfl (.slice ka kn kc) (fun w' hx' => by have hb' := HB0.out w' hx'; go_simp; try rfl) ?_
  go_simp
  iterate 3 ((refine wpY_q rfl rfl _ (fun w' hx' => by go_simp; try rfl) ?_; go_simp))
  refine wpY_nil ?_
  have HX2 := Lib.hid (HX.out.trans' E2.out)
  have HB2 := Lib.hid (E2.out.heap' HB.out)
  generalize w1.drew = w2 at HX2 HB2 ⊢
  clear HX HB HB0 E2
  obtain ⟨-, c1, -⟩ := box2 HB2.out
  obtain ⟨pr, hpr⟩ : ∃ r, r = kP.rest := ⟨_, rfl⟩
  rw [← hpr] at c1 HFI HLA
  clear hpr
  go_upto_if 17 with fail
  go_cut [5, 6, 8] from 18 (fun s5 s6 _ w' => s5 = .int .i64 (fi : Nat) ∧ s6 = .int .i64 (la : Nat) ∧ Ext w2 w')
  case first =>
    cases pr with
    | false =>
      have hf : fi = kn := HFI.out
      have hl : la = kn := HLA.out
      have HF := Lib.hid hf
      have HL := Lib.hid hl
      clear hf hl HFI HLA
      go_wp2
      go_meet
      case rel => exact ⟨by rw [HF.out], by rw [HL.out], Below.refl _ _⟩
    | true =>
      have hf : fi = kn + 1 := HFI.out
      have hl : la = mxL (kn + 1) L := HLA.out
      have HF := Lib.hid hf
      have HL := Lib.hid hl
      clear hf hl HFI HLA
      have hkn13 : kn ≤ 12 := hk12
      go_upto_region 5 with fail
      go_loopw [6, 24] (MxRel w2 L (kn + 1)) (fun _ i _ => L.length - (intOf i).toNat)
      case atStart => exact ⟨0, rfl, Nat.zero_le _, by show _ = Value.int .i64 ((kn + 1 : Nat) : Int); go_num, Below.refl _ _⟩
      case round =>
        obtain ⟨j, rfl, hj, rfl, hx⟩ := hrel
        rename World => wd
        have HXD := Lib.hid (show Ext w2 wd from hx)
        clear hx
        have hm13 : mxL (kn + 1) (L.take j) ≤ 13 := mxL_le 13 _ _ (by omega) (fun q hq => (HLE.out q (List.mem_of_mem_take hq)).1)
        by_cases hjl : j < L.length
        · obtain ⟨q, hq⟩ : ∃ q, L[j]? = some q := ⟨_, List.getElem?_eq_getElem hjl⟩
          have HQ := Lib.hid hq
          have HQE := Lib.hid (HLE.out q (List.mem_of_getElem? hq))
          have HST := Lib.hid (mxL_step (kn + 1) hq)
          obtain ⟨m, hm⟩ : ∃ m, m = mxL (kn + 1) (L.take j) := ⟨_, rfl⟩
          rw [← hm] at HST hm13 ⊢
          have hrow := HROW.out wd (HX2.out.trans' HXD.out)
          have HPN := Lib.hid (put_new wd #[.slice none 0 0, .bool false] #[.slice q.a q.n q.c, .bool q.P.rest] 39)
          have HNN := Lib.hid (heap_alloc_new wd (.cells #[.slice none 0 0, .bool false] 39))
          obtain ⟨c8, -, -⟩ := box2 HPN.out.2
          have hq12 : q.n ≤ 12 := HQE.out.2.1
          clear hq hm
          go_wp2_with (first
            | ((with_reducible refine atSlot 26 ?_); refine wpList_of_wp rfl (owp_ix (o := ⟨some 26, _, _, _, _, _⟩) _ _ rfl Tryz.elPat rfl hrow j rfl rfl hjl ?_); intro b1 o1 hc2; have hd := flat_range pt_two HQ.out hc2; clear hc2 hrow)
            | ((with_reducible refine atSlot 27 ?_); refine wpList_of_wp rfl (wp_load_mid (op := ⟨some 27, _, _, _, _, _⟩) 39 _ rfl b1 o1 rfl [.slice q.a q.n q.c, .bool q.P.rest] _ hd Tryz.underlying39 rfl (by kernel_rfl) ?_); clear hd)
            | ((with_reducible refine atStore 8 ?_); refine wpList_of_wp rfl (wp_store_row (o := ⟨none, _, _, _, _, _⟩) _ _ _ rfl wd.heap.size #[.slice q.a q.n q.c, .bool q.P.rest] rfl rfl _ _ HNN.out (by kernel_rfl) rfl (by simp [Value.oneCell']) ?_))
            | fail)
          exact ⟨⟨j + 1, by go_num, hjl, by rw [HST.out, HQE.out.2.2]; exact congrArg (Value.int .i64) (by omega), HXD.out.trans' HPN.out.1⟩, by simp [intOf]; omega⟩
        · obtain rfl : j = L.length := by omega
          have HTK := Lib.hid (show mxL (kn + 1) (L.take L.length) = la by rw [HL.out, List.take_length])
          go_wp2
          go_meet
          case rel => exact ⟨by rw [HF.out]; go_num, by rw [HTK.out], HXD.out⟩
  obtain ⟨rfl, rfl, hx3⟩ := hcut
  clear HFI HLA c1
  have HX3 := Lib.hid hx3
  have hn9 := heap_alloc_new wc (.cells #[.int .i64 0] 3)
  clear hx3
  go_upto_region 10 with fail
  go_loopg [9] (la + 2) (fun gg s9 wr => ∃ n : Nat, la + 2 - n ≤ gg ∧ LnRel wc kP L fi la n s9 wr)
  case atStart => exact ⟨fi, by omega, wc.heap.size, rfl, Nat.le_refl _, by omega, (fun i h1 h2 => by omega), heap_alloc_new wc _, Nat.le_refl _, Ext.alloc' wc _⟩
  case round =>
    obtain ⟨n, hgg, g, rfl, hn1, hn2, hall, hbx, hgs, hx⟩ := hrel
    rename World => wd
    have HXD := Lib.hid (show Ext wc wd from hx)
    have HALL := Lib.hid hall
    have HBX := Lib.hid hbx
    have hcn : wd.cell? ⟨g, 0, none⟩ = some (.int .i64 (n : Nat)) := cell_of_row wd g 0 _ _ _ hbx
    clear hx hall hbx
    by_cases hle : n ≤ la
    · have hn62 : n ≤ 4611686018427387904 := by omega
      have HXW := Lib.hid (HX2.out.trans' (HX3.out.trans' HXD.out))
      have HBW := Lib.hid (((HX3.out.trans' HXD.out)).heap' HB2.out)
      have HCT := Lib.hid (ContainsP_any 84 #[.pointer (some ⟨g, 0, none⟩), .pointer (some ⟨b, 0, none⟩)] HEG.out (CovT kP n) a c L wd (HROW.out wd HXW.out) (fun q hq W hW => by
        show Calls Tryz.prog 84 #[q.v, .pointer (some ⟨g, 0, none⟩), .pointer (some ⟨b, 0, none⟩)] W _
        exact least1_any q ⟨ka, kn, kc, kP⟩ n g b S W ((HEA.out q hq).ext (HXW.out.trans' hW)) (HK.out.ext (HXW.out.trans' hW)) hn62 hS (hW.heap' HBX.out) (hW.heap' HBW.out)))
      have hn64 : n ≤ 14 := by omega
      go_upto_if 44 with (first
        | (go_at_call 65; (with_reducible refine HCT.out.mono ?_); rintro en w5 ⟨f, rfl, h2, hx2⟩; have HF := Lib.hid h2; have HX5 := Lib.hid hx2; clear h2 hx2)
        | fail)
      have HB5 := Lib.hid (HX5.out.heap' HBX.out)
      have hcn5 : w5.cell? ⟨g, 0, none⟩ = some (.int .i64 (n : Nat)) := cell_of_row w5 g 0 _ _ _ HB5.out
      clear hcn
      cases f with
      | false =>
        have HNF := Lib.hid (show ¬ ∃ q ∈ L, CovT kP n q from fun h => by have := HF.out.2 h; cases this)
        go_wp2
        rw [HPO.out]
        exact ⟨n, rfl, ⟨fun h => by omega, fun h => absurd (HV.out.1 h n hn1 hle) HNF.out⟩, HXW.out.trans' HX5.out⟩
      | true =>
        have HT := Lib.hid (HF.out.1 rfl)
        have hn5 := heap_alloc_new w5 (.cells #[.int .i64 0] 3)
        go_wp2
        go_roundg (la + 2 - (n + 1))
        case measure => omega
        case rel =>
          refine ⟨n + 1, Nat.le_refl _, w5.heap.size, rfl, by omega, by omega, (fun i h1 h2 => ?_), by rw [show ((n + 1 : Nat) : Int) = (n : Int) + 1 by omega]; exact heap_alloc_new w5 _, (HXD.out.trans' HX5.out).size, (HXD.out.trans' HX5.out).trans' (Ext.alloc' w5 _)⟩
          by_cases h : i < n
          · exact HALL.out i h1 h
          · obtain rfl : i = n := by omega
            exact HT.out
    · have HFI2 := Lib.hid (show VoidT kP L from HV.out.2 fun i h1 h2 => HALL.out i h1 (by omega))
      have hle' : ¬ (n : Int) ≤ (la : Int) := by omega
      go_wp2
      rw [HPO.out]
      exact ⟨0, rfl, ⟨fun _ => HFI2.out, fun _ => rfl⟩, HX2.out.trans' (HX3.out.trans' HXD.out)⟩

set_option maxRecDepth 100000 in
set_option maxHeartbeats 4000000 in
theorem Void_any (k : Pt) (a : Option Addr) (c : Nat) (L : List Pt) (S : Nat) (w : World) (hk : PtI w S k) (hl : PtsI w S a c L) (hS : S ≤ 1073741824) (hok : OkP k.P) (hol : ∀ q ∈ L, OkP q.P) :
    Calls Tryz.prog 19 #[k.v, .slice a L.length c] w (PrO (VoidT k.P L) w) := by
  have HLL := Lib.hid fun w' (h : Ext w w') => leastLength_any k a c L S w' (hk.ext h) (hl.ext h) hS hok hol
  clear hk hl hok hol
  obtain ⟨ka, kn, kc, kP⟩ := k
  obtain ⟨post, hpo⟩ : ∃ p : Ending → World → Prop, p = PrO (VoidT kP L) w := ⟨_, rfl⟩
  rw [← hpo]
  have HPO := Lib.hid hpo
  have HX := Lib.hid (Ext.alloc' w (.cells #[.slice ka kn kc, .bool kP.rest] 39))
  have hh := heap_alloc_new w (.cells #[.slice ka kn kc, .bool kP.rest] 39)
  clear hpo
  go_enter Tryz.func19, Tryz.ntmps19
  go_upto_region 1 with fail
  change Code.wp _ _ _ _ (w.alloc (.cells #[.slice ka kn kc, .bool kP.rest] 39))
  generalize w.alloc (.cells #[.slice ka kn kc, .bool kP.rest] 39) = w1 at HX hh ⊢
  generalize w.heap.size = b at hh ⊢
  have hr5 := (box2 hh).2.2
  clear hh
  go_wp2_with (first
    | ((with_reducible refine atSlot 5 ?_); refine wpList_of_wp rfl (wp_load_mid (op := ⟨some 5, _, _, _, _, _⟩) 39 _ rfl b 0 rfl [.slice ka kn kc, .bool kP.rest] _ hr5 Tryz.underlying39 rfl (by kernel_rfl) ?_); clear hr5)
    | (go_at_call 53; (with_reducible refine (HLL.out _ HX.out).mono ?_); rintro en w2 ⟨v, rfl, h2, hx2⟩; have H2 := Lib.hid h2; have HX2 := Lib.hid (HX.out.trans' hx2); clear h2 hx2)
    | fail)
  rw [HPO.out]
  exact ⟨(v : Int) == 0, rfl, by rw [beq_iff_eq]; exact ⟨fun h => H2.out.1 (by omega), fun h => by have := H2.out.2 h; omega⟩, HX2.out⟩
end Go.Proofs.YtejljmikammcdaaGreatDoor
/-
  Layer region: Has.
-/
namespace Go.Proofs.YtejljmikammcdaaGreatDoor
open Go.RowKit

def MatT (P : Pat) (s : Str) : Prop := (matchS P s).isSome = true
def HasT (B : Pat) (L : List Pt) (s : Str) : Prop := MatT B s ∧ ¬ ∃ q ∈ L, MatT q.P s
set_option maxRecDepth 100000 in
set_option maxHeartbeats 4000000 in
theorem has1_any (q : Pt) (s : Str) (g S : Nat) (W : World) (hq : PtI W S q) (hS : S ≤ 1073741824) (hs : s.length ≤ 1099511627000) (hc : W.heap[g]? = some (.cells #[.string (bs s)] 9 (0, 0))) :
    Calls Tryz.prog 63 #[q.v, .pointer (some ⟨g, 0, none⟩)] W (PrO (MatT q.P s) W) := by
  have HMA := Lib.hid fun w' (h : Ext W w') => Match_any q S s w' (hq.ext h) hS hs
  obtain ⟨qa, qn, qc, qP⟩ := q
  have HX := Lib.hid (Ext.alloc' W (.cells #[.slice qa qn qc, .bool qP.rest] 39))
  have hh := heap_alloc_new W (.cells #[.slice qa qn qc, .bool qP.rest] 39)
  obtain ⟨post, hpo⟩ : ∃ p : Ending → World → Prop, p = PrO (MatT qP s) W := ⟨_, rfl⟩
  show Calls _ _ _ _ (PrO (MatT qP s) W)
  rw [← hpo]
  have HPO := Lib.hid hpo
  have hcs : (W.alloc (.cells #[.slice qa qn qc, .bool qP.rest] 39)).cell? ⟨g, 0, none⟩ = some (.string (bs s)) := cell_of_row _ g 0 _ _ _ (HX.out.heap' hc)
  clear hpo hq hc
  go_enter Tryz.func63, Tryz.ntmps63
  go_upto_region 1 with fail
  change Code.wp _ _ _ _ (W.alloc (.cells #[.slice qa qn qc, .bool qP.rest] 39))
  generalize W.alloc (.cells #[.slice qa qn qc, .bool qP.rest] 39) = w1 at HX hh hcs ⊢
  generalize W.heap.size = b at hh ⊢
  have hr7 := (box2 hh).2.2
  clear hh
  go_wp2_with (first
    | ((with_reducible refine atSlot 7 ?_); refine wpList_of_wp rfl (wp_load_mid (op := ⟨some 7, _, _, _, _, _⟩) 39 _ rfl b 0 rfl [.slice qa qn qc, .bool qP.rest] _ hr7 Tryz.underlying39 rfl (by kernel_rfl) ?_); clear hr7)
    | (go_at_call 64; (with_reducible refine (HMA.out _ HX.out).mono ?_); rintro en w2 ⟨a1, n1, c1, rfl, -, hx2⟩; have HX2 := Lib.hid (HX.out.trans' hx2); clear hx2)
    | fail)
  rw [HPO.out]
  exact ⟨(matchS qP s).isSome, rfl, Iff.rfl, HX2.out⟩

set_option maxRecDepth 100000 in
set_option maxHeartbeats 4000000 in
theorem Has_any (k : Rg) (s : Str) (S : Nat) (w : World) (hk : RgI w S k) (hS : S ≤ 1073741824) (hs : s.length ≤ 1099511627000) (hok : OkG k.b.P k.hs) :
    Calls Tryz.prog 30 #[k.v, .string (bs s)] w (PrO (HasT k.b.P k.hs s) w) := by
  have HCK := Lib.hid fun w' (h : Ext w w') => (GCheck_any k S w' (hk.ext h) (by omega)).mono fun en w'' hh => (show NewNone (.int .i64 0) w' en w'' from by
    obtain ⟨e, h1, h2, h3⟩ := hh
    obtain rfl : e = 0 := h2.2 hok
    exact ⟨h1, h3⟩)
  have HK := Lib.hid hk
  have eg : ∀ args w, (callFunc 63 args).run Tryz.prog w = .ok (.enter 63 args) w := enters_of Tryz.func63 (by kernel_rfl) rfl
  have HEG := Lib.hid eg
  clear hk hok
  obtain ⟨⟨ba, bn, bc, bP⟩, ha, hc, L⟩ := k
  obtain ⟨post, hpo⟩ : ∃ p : Ending → World → Prop, p = PrO (HasT bP L s) w := ⟨_, rfl⟩
  rw [← hpo]
  have HPO := Lib.hid hpo
  have HX := Lib.hid (two_boxes w #[.slice ba bn bc, .bool bP.rest, .slice ha L.length hc] #[.string (bs s)] 55 9)
  clear hpo
  go_enter Tryz.func30, Tryz.ntmps30
  go_upto_region 1 with fail
  generalize (w.alloc (.cells #[.slice ba bn bc, .bool bP.rest, .slice ha L.length hc] 55)).alloc (.cells #[.string (bs s)] 9) = w2 at HX ⊢
  obtain ⟨hx2, hh1, hh2⟩ := HX.out
  have HX2 := Lib.hid hx2
  have HB1 := Lib.hid hh1
  have HB2 := Lib.hid hh2
  have hr6 := (box3 hh1).2.2
  generalize w.heap.size = b at HB1 HB2 hr6 ⊢
  clear hx2 hh1 hh2 HX
  go_upto_region 4 with (first
    | ((with_reducible refine atSlot 6 ?_); refine wpList_of_wp rfl (wp_load_mid (op := ⟨some 6, _, _, _, _, _⟩) 55 _ rfl b 0 rfl [.slice ba bn bc, .bool bP.rest, .slice ha L.length hc] _ hr6 Tryz.underlying55 rfl (by kernel_rfl) ?_); clear hr6)
    | (go_at_call 62; (with_reducible refine (HCK.out _ HX2.out).mono ?_); rintro en w3 ⟨rfl, hx3⟩; have HX3 := Lib.hid (HX2.out.trans' hx3); have HB3 := Lib.hid (hx3.heap' HB1.out); have HC3 := Lib.hid (hx3.heap' HB2.out); clear hx3)
    | fail)
  clear HB1 HB2 HCK
  have hr12 := (box3 HB3.out).1
  have H1 := Lib.hid (has1_any ⟨ba, bn, bc, bP⟩ s (b + 1) S w3 ((HK.out.ext HX3.out).b) hS hs HC3.out)
  have HCT := Lib.hid fun w' (h : Ext w3 w') => ContainsP_any 63 #[.pointer (some ⟨b + 1, 0, none⟩)] HEG.out (fun q => MatT q.P s) ha hc L w' (HK.out.hs.row.ext (HX3.out.trans' h)) (fun q hq W hW => by
        show Calls Tryz.prog 63 #[q.v, .pointer (some ⟨b + 1, 0, none⟩)] W _
        exact has1_any q s (b + 1) S W ((HK.out.hs.each q hq).ext (HX3.out.trans' (h.trans' hW))) hS hs ((h.trans' hW).heap' HC3.out))
  have HBC := Lib.hid fun w' (h : Ext w3 w') => (box3 (h.heap' HB3.out)).2.1
  by_cases hm : MatT bP s
  · have H1' := Lib.hid (H1.out.mono fun en w' hh => (show NewNone (.bool true) w3 en w' from by
      obtain ⟨q, h1, h2, h3⟩ := hh
      obtain rfl : q = true := h2.2 hm
      exact ⟨h1, h3⟩))
    go_wp2_with (first
      | ((with_reducible refine atSlot 12 ?_); refine wpList_of_wp rfl (wp_load_mid (op := ⟨some 12, _, _, _, _, _⟩) 39 _ rfl b 0 rfl [.slice ba bn bc, .bool bP.rest] _ hr12 Tryz.underlying39 rfl (by kernel_rfl) ?_); clear hr12)
      | (go_at_fn 63; (with_reducible refine H1'.out.mono ?_); rintro en w4 ⟨rfl, hx4⟩; have HX4 := Lib.hid hx4; have hb2 := HBC.out w4 hx4; clear hx4)
      | (go_at_call 65; (with_reducible refine (HCT.out _ HX4.out).mono ?_); rintro en w5 ⟨f, rfl, h2, hx2⟩; have HF := Lib.hid h2; have HX5 := Lib.hid (HX4.out.trans' hx2); clear h2 hx2)
      | fail)
    rw [HPO.out]
    exact ⟨!f, rfl, by
      unfold HasT
      rw [← HF.out]
      cases f with
      | true => exact ⟨(fun h => by cases h), fun h => absurd rfl h.2⟩
      | false => exact ⟨fun _ => ⟨hm, fun h => by cases h⟩, fun _ => rfl⟩, HX3.out.trans' HX5.out⟩
  · have H1' := Lib.hid (H1.out.mono fun en w' hh => (show NewNone (.bool false) w3 en w' from by
      obtain ⟨q, h1, h2, h3⟩ := hh
      obtain rfl : q = false := by
        cases q with
        | true => exact absurd (h2.1 rfl) hm
        | false => rfl
      exact ⟨h1, h3⟩))
    go_wp2_with (first
      | ((with_reducible refine atSlot 12 ?_); refine wpList_of_wp rfl (wp_load_mid (op := ⟨some 12, _, _, _, _, _⟩) 39 _ rfl b 0 rfl [.slice ba bn bc, .bool bP.rest] _ hr12 Tryz.underlying39 rfl (by kernel_rfl) ?_); clear hr12)
      | (go_at_fn 63; (with_reducible refine H1'.out.mono ?_); rintro en w4 ⟨rfl, hx4⟩; have HX4 := Lib.hid hx4; clear hx4)
      | fail)
    rw [HPO.out]
    exact ⟨false, rfl, ⟨(fun h => by cases h), fun h => absurd h.1 hm⟩, HX3.out.trans' HX4.out⟩
end Go.Proofs.YtejljmikammcdaaGreatDoor
