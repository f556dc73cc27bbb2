/-
  Several texts in one: StG, StH, StI.
-/
import Derived.Test.YtejljmikammcdaaGreatDoorStF
/-
  Layer stream, at the two streams of awake08: stored, ownKind, narrowed.
-/
namespace Go.Proofs.YtejljmikammcdaaGreatDoor
open Go.RowKit Go.WideMaps

set_option maxRecDepth 100000 in
set_option maxHeartbeats 4000000 in
theorem stored_any (k : Pt) (nm : Str) (s : ByteArray) (w : World) (hk : PtI w 100 k) (hv : k.P = vwP) (hn : nm.length ≤ 100) (hs : Value.string s = sv nm) :
    Calls Tryz.prog 40 #[k.v, .string s] w (NewPt ⟨[nm], true⟩ 100 w) := by
  have HCP := Lib.hid fun w' (h : Ext w w') => Copy_any k 100 w' (hk.ext h) (by have h1 := hk.len; rw [hv] at h1; have : k.n = 1 := h1.symm; omega)
  rw [hv] at HCP
  have HS := Lib.hid hs
  clear hk
  obtain ⟨ka, kn, kc, kP⟩ := k
  obtain rfl : kP = vwP := hv
  obtain ⟨post, hpo⟩ : ∃ q : Ending → World → Prop, q = NewPt ⟨[nm], true⟩ 100 w := ⟨_, rfl⟩
  rw [← hpo]
  have HPO := Lib.hid hpo
  replace HCP := Lib.hid (show ∀ w', Ext w w' → Calls Tryz.prog 20 #[.agg #[.slice ka kn kc, .bool true]] w' (NewPt vwP 100 w') from HCP.out)
  have HX := Lib.hid (two_boxes w #[.slice ka kn kc, .bool true] #[.slice none 0 0, .bool false] 39 39)
  clear hpo hs
  show Calls Tryz.prog 40 #[.agg #[.slice ka kn kc, .bool true], .string s] w post
  go_enter Tryz.func40, Tryz.ntmps40
  go_upto_region 1 with fail
  generalize (w.alloc (.cells #[.slice ka kn kc, .bool true] 39)).alloc (.cells #[.slice none 0 0, .bool false] 39) = w2 at HX ⊢
  obtain ⟨hx2, hh1, hh2⟩ := HX.out
  have HX2 := Lib.hid hx2
  have HB1 := Lib.hid hh1
  have HB2 := Lib.hid hh2
  obtain ⟨b, hb⟩ : ∃ b, b = w.heap.size := ⟨_, rfl⟩
  rw [← hb] at HB1 HB2 ⊢
  have HBB := Lib.hid hb
  have hr5 := (box2 HB1.out).2.2
  clear hx2 hh1 hh2 HX hb
  go_upto_region 2 with (first
    | ((with_reducible refine atSlot 5 ?_); refine wpList_of_wp rfl (wp_load_mid (op := ⟨some 5, _, _, _, _, _⟩) 39 _ rfl b 0 rfl [.slice ka kn kc, .bool true] _ hr5 Tryz.underlying39 rfl (by kernel_rfl) ?_); clear hr5)
    | (go_at_call 20; (with_reducible refine (HCP.out _ HX2.out).mono ?_); rintro en w3 ⟨⟨ca, cn, cc, cP⟩, hcp, rfl, hco, hx3⟩; have HCO := Lib.hid hco; have HCE := Lib.hid (show cP = vwP from hcp); have HX3 := Lib.hid (HX2.out.trans' hx3); have HB3 := Lib.hid (hx3.heap' HB1.out); have HB4 := Lib.hid (hx3.heap' HB2.out); have HSZ := Lib.hid (show w.heap.size ≤ w2.heap.size from HX2.out.size); clear hcp hco hx3)
    | ((with_reducible refine atStore 2 ?_); refine wpList_of_wp rfl (wp_store_row (o := ⟨none, _, _, _, _, _⟩) _ _ _ rfl b #[.slice ca cn cc, .bool cP.rest] rfl rfl _ _ HB3.out (by kernel_rfl) rfl (by simp [Value.oneCell']) ?_))
    | fail)
  obtain rfl := HCE.out
  have hcn : cn = 1 := HCO.out.i.len.symm
  subst hcn
  have ho : w3.ownsRow w.heap.size 9 1 (.slice ca 1 cc) 1 [sv [118, 105, 101, 119]] := own_base HCO.out.own HSZ.out
  obtain ⟨g, cur, rfl, hwg, hcur, hcc, -⟩ := own_some ho (by decide)
  have hgb : g ≠ b := fun e => by rw [e] at hcur; rw [HB3.out] at hcur; simp at hcur
  have hgb1 : g ≠ b + 1 := fun e => by rw [e] at hcur; rw [HB4.out] at hcur; simp at hcur
  have HO4 := Lib.hid (own_other ho (grown_setRow w3 b #[.slice (some ⟨g, 0, none⟩) 1 cc, .bool vwP.rest]) (fun e => own_apart ho HB3.out (by decide) e.symm))
  have HC4 := Lib.hid (show (w3.setRow b #[.slice (some ⟨g, 0, none⟩) 1 cc, .bool vwP.rest]).heap[b]? = some (.cells #[.slice (some ⟨g, 0, none⟩) 1 cc, .bool vwP.rest] 39) from setRow_heap _ _ _ _ _ _ HB3.out)
  have HC5 := Lib.hid (heap_keep HB4.out (grown_setRow w3 b #[.slice (some ⟨g, 0, none⟩) 1 cc, .bool vwP.rest]) (by omega))
  have HX4 := Lib.hid (Ext.setRow (cs := #[.slice (some ⟨g, 0, none⟩) 1 cc, .bool vwP.rest]) HX3.out (g := b) (by rw [HBB.out]; omega))
  generalize w3.setRow b #[.slice (some ⟨g, 0, none⟩) 1 cc, .bool vwP.rest] = w4 at HO4 HC4 HC5 HX4 ⊢
  obtain ⟨c0, c1, hr11⟩ := box2 HC4.out
  clear ho hcur
  go_upto_region 3 with (first
    | ((with_reducible refine atSlot 10 ?_); refine wpList_of_wp rfl (owp_ixp1 (o := ⟨some 10, _, _, _, _, _⟩) _ _ rfl Tryz.elStr rfl 0 rfl rfl (by decide) ?_))
    | ((with_reducible refine atStore 10 ?_); refine wpList_of_wp rfl (owp_st1 (o := ⟨none, _, _, _, _, _⟩) 9 _ _ rfl g 0 (.string s) rfl rfl rfl (own_there HO4.out (by decide)) (by kernel_rfl) rfl ?_))
    | fail)
  have ho5 : (w4.setCell ⟨g, 0, none⟩ (.string s)).ownsRow w.heap.size 9 1 (.slice (some ⟨g, 0, none⟩) 1 cc) 1 [sv nm] := by
    have h := own_setCell (v := .string s) HO4.out (j := 0) (by decide)
    rw [HS.out] at h ⊢
    exact h
  have hgr := grown_setCell' w4 g 0 (.string s)
  have HC6 := Lib.hid (heap_keep HC4.out hgr (fun e => hgb e.symm))
  have HC7 := Lib.hid (heap_keep HC5.out hgr (fun e => hgb1 e.symm))
  have HX5 := Lib.hid (HX4.out.rd hgr hwg)
  have HO5 := Lib.hid ho5
  generalize w4.setCell ⟨g, 0, none⟩ (.string s) = w5 at HC6 HC7 HX5 HO5 ⊢
  have hr11 := (box2 HC6.out).2.2
  clear ho5 hgr c0 c1
  go_wp2_with (first
    | ((with_reducible refine atSlot 11 ?_); refine wpList_of_wp rfl (wp_load_mid (op := ⟨some 11, _, _, _, _, _⟩) 39 _ rfl b 0 rfl [.slice (some ⟨g, 0, none⟩) 1 cc, .bool vwP.rest] _ hr11 Tryz.underlying39 rfl (by kernel_rfl) ?_); clear hr11)
    | ((with_reducible refine atStore 4 ?_); refine wpList_of_wp rfl (wp_store_row (o := ⟨none, _, _, _, _, _⟩) _ _ _ rfl (b + 1) #[.slice (some ⟨g, 0, none⟩) 1 cc, .bool vwP.rest] rfl rfl _ _ HC7.out (by kernel_rfl) rfl (by simp [Value.oneCell']) ?_))
    | fail)
  refine bodyPost_ret (results_cells rfl _ (b + 1) [.slice (some ⟨g, 0, none⟩) 1 cc, .bool vwP.rest] _ rfl (fun i v hi => by rw [cell_of_row _ _ i _ _ _ (setRow_heap _ _ _ _ _ _ HC7.out)]; simpa using hi) Tryz.underlying39 rfl (by kernel_rfl)) rfl ?_
  rw [HPO.out]
  exact ⟨⟨some ⟨g, 0, none⟩, 1, cc, ⟨[nm], true⟩⟩, rfl, rfl, ⟨own_other HO5.out (grown_setRow _ _ _) (fun e => own_apart HO5.out HC7.out (by decide) e.symm), fun p hp => by
    obtain rfl : p = nm := by simpa using hp
    exact hn⟩, HX5.out.setRow (by rw [HBB.out]; omega)⟩
/-- A piece. -/
structure Pc where
  g : Rg
  r : Rl
def Pc.cells (k : Pc) : List Value := [.slice k.g.b.a k.g.b.n k.g.b.c, .bool k.g.b.P.rest, .slice k.g.a k.g.hs.length k.g.c, .int .i64 1, .bool k.r.x, .slice k.r.l.a k.r.l.n k.r.l.c, .bool k.r.l.P.rest, .slice k.r.r.a k.r.r.n k.r.r.c, .bool k.r.r.P.rest]
abbrev Pc.v (k : Pc) : Value := .agg #[.slice k.g.b.a k.g.b.n k.g.b.c, .bool k.g.b.P.rest, .slice k.g.a k.g.hs.length k.g.c, .int .i64 1, .bool k.r.x, .slice k.r.l.a k.r.l.n k.r.l.c, .bool k.r.l.P.rest, .slice k.r.r.a k.r.r.n k.r.r.c, .bool k.r.r.P.rest]
theorem pc_nine (k : Pc) : k.cells.length = 9 := rfl
theorem pc_one (k : Pc) : ∀ v ∈ k.cells, v.oneCell' = true := fun v hv => by
  simp [Pc.cells] at hv
  rcases hv with rfl | rfl | rfl | rfl | rfl | rfl | rfl | rfl | rfl <;> rfl
set_option maxRecDepth 100000 in
theorem ownKind_any (w : World) : Calls Tryz.prog 132 #[.int .i64 1, .int .i64 1] w (RetE (.int .i64 1) w) := by
  obtain ⟨post, hpo⟩ : ∃ q : Ending → World → Prop, q = RetE (.int .i64 1) w := ⟨_, rfl⟩
  rw [← hpo]
  have HPO := Lib.hid hpo
  clear hpo
  go_enter Tryz.func132, Tryz.ntmps132
  go_wp2
  rw [HPO.out]
  exact ⟨rfl, Below.refl _ _⟩
/-- The storage of a stream. -/
structure Nm (nm : Str) : Prop where
  ok : OkP ⟨[nm], true⟩
  le : nm.length ≤ 100
  car : carry vwP vwP ⟨[nm], true⟩ = ⟨[nm], true⟩
  st : stars [nm] = 0
theorem nm_ma : Nm [109, 97, 105, 110] := ⟨okP_of.1 (by decide), by decide, by rfl, by decide⟩
theorem nm_de : Nm [100, 101, 118] := ⟨okP_of.1 (by decide), by decide, by rfl, by decide⟩
def NvO (nm : Str) (w : World) (en : Ending) (w' : World) : Prop := ∃ g : Rl, en = .returned (.tuple #[g.v, .bool true, .int .i64 0]) ∧ g.l.P = vwP ∧ g.r.P = ⟨[nm], true⟩ ∧ RlO w' w.heap.size 200 g ∧ Ext w w'
theorem NarrowLeft_vw (k : Rl) (p : Pt) (nm : Str) (w : World) (hk : RlI w 100 k) (hp : PtI w 100 p) (hn : Nm nm) (h1 : k.l.P = vwP) (h2 : k.r.P = ⟨[nm], true⟩) (h3 : p.P = vwP) :
    Calls Tryz.prog 42 #[k.v, p.v] w (NvO nm w) := by
  refine (NarrowLeft_any k p 100 w hk hp (by decide)).mono ?_
  rintro en w' ⟨g, q, e, rfl, ⟨h4, h5⟩, h6, h7⟩
  rw [h1, h2, h3] at h4 h5
  have hor : OkR vwP ⟨[nm], true⟩ := ⟨vw_ok, hn.ok, by rw [show stars vwP.parts = 0 by decide]; exact hn.st.symm, rfl⟩
  have he : e = 0 := by
    refine Classical.not_not.1 fun h => ?_
    obtain ⟨m, h8, h9⟩ := h5 h hor vw_ok
    rw [vw_meet] at h8
    cases h8
    rw [hn.car] at h9
    exact absurd h9 (by simp)
  subst he
  obtain ⟨-, -, o, ho, hq, hog⟩ := h4 rfl
  cases o with
  | none =>
    have h8 : meetP vwP vwP = none := ho
    rw [vw_meet] at h8
    cases h8
  | some mc =>
    obtain ⟨m, c⟩ := mc
    obtain ⟨h8, h9, h10⟩ := ho
    rw [vw_meet] at h8
    cases h8
    rw [hn.car] at h9
    obtain ⟨e1, e2⟩ := hog _ _ rfl
    exact ⟨g, by rw [hq]; rfl, e1, by rw [e2, ← h9], h6, h7⟩
end Go.Proofs.YtejljmikammcdaaGreatDoor
/-
  Layer stream, at the two streams of awake08: narrowed.
-/
namespace Go.Proofs.YtejljmikammcdaaGreatDoor
open Go.RowKit Go.WideMaps

theorem boxes4 (w : World) (x y z u : Array Value) (t1 t2 t3 t4 : TypeId) : Ext w ((((w.alloc (.cells x t1)).alloc (.cells y t2)).alloc (.cells z t3)).alloc (.cells u t4)) ∧
    ((((w.alloc (.cells x t1)).alloc (.cells y t2)).alloc (.cells z t3)).alloc (.cells u t4)).heap[w.heap.size]? = some (.cells x t1) ∧
    ((((w.alloc (.cells x t1)).alloc (.cells y t2)).alloc (.cells z t3)).alloc (.cells u t4)).heap[w.heap.size + 1]? = some (.cells y t2) ∧
    ((((w.alloc (.cells x t1)).alloc (.cells y t2)).alloc (.cells z t3)).alloc (.cells u t4)).heap[w.heap.size + 2]? = some (.cells z t3) ∧
    ((((w.alloc (.cells x t1)).alloc (.cells y t2)).alloc (.cells z t3)).alloc (.cells u t4)).heap[w.heap.size + 3]? = some (.cells u t4) := by
  obtain ⟨h1, h2, h3, h4⟩ := three_boxes w x y z t1 t2 t3
  refine ⟨h1.trans' (Ext.alloc' _ _), (Ext.alloc' _ _).heap' h2, (Ext.alloc' _ _).heap' h3, (Ext.alloc' _ _).heap' h4, ?_⟩
  have := heap_alloc_new (((w.alloc (.cells x t1)).alloc (.cells y t2)).alloc (.cells z t3)) (.cells u t4)
  simpa using this
/-- The cells of a row, one for one. -/
theorem box_at {w : World} {g : Nat} {cs : Array Value} {t : TypeId} {fr : Nat × Nat} (h : w.heap[g]? = some (.cells cs t fr)) (j : Nat) (v : Value) (hv : cs[j]? = some v) : w.cell? ⟨g, j, none⟩ = some v := by
  rw [cell_of_row w g j _ _ _ h]
  exact hv
/-- A part of a row. -/
theorem box_part {w : World} {g : Nat} {cs : Array Value} {t : TypeId} {fr : Nat × Nat} (h : w.heap[g]? = some (.cells cs t fr)) (o : Nat) (vs : List Value) (hv : (cs.toList.drop o).take vs.length = vs) : w.rangeAt g o vs :=
  range_box h o vs fun j v hj => by
    have hlt := (List.getElem?_eq_some_iff.1 hj).1
    have h1 : ((cs.toList.drop o).take vs.length)[j]? = some v := by rw [hv]; exact hj
    rw [List.getElem?_take_of_lt hlt, List.getElem?_drop] at h1
    rw [← h1]
    simp
/-- What narrowed answers. -/
def NwO (nm : Str) (g : Rg) (w : World) (en : Ending) (w' : World) : Prop := ∃ r : Rl, en = .returned (.tuple #[(⟨g, r⟩ : Pc).v, .int .i64 0]) ∧ r.l.P = vwP ∧ r.r.P = ⟨[nm], true⟩ ∧ RlO w' w.heap.size 200 r ∧ Ext w w'
set_option maxRecDepth 100000 in
set_option maxHeartbeats 8000000 in
theorem narrowed_any (nm : Str) (s : ByteArray) (p : Option Addr) (cp : Nat) (k : Pc) (g : Rg) (w : World) (hs : Value.string s = sv nm) (hn : Nm nm) (hg : RgI w 100 g) (hv : Vw g) :
    Calls Tryz.prog 98 #[.string s, .agg #[.int .i64 1, .slice p 1 cp, .bool true, .slice none 0 0, .bool false], k.v, g.v] w (NwO nm g w) := by
  obtain ⟨⟨ba, bn, bc, bP⟩, ha, hc, D⟩ := g
  obtain ⟨rfl, rfl⟩ : bP = vwP ∧ D = [] := ⟨hv.b, hv.hs⟩
  have HST := Lib.hid fun w' (h : Ext w w') => (show Calls Tryz.prog 40 #[.agg #[.slice ba bn bc, .bool true], .string s] w' (NewPt ⟨[nm], true⟩ 100 w') from stored_any ⟨ba, bn, bc, vwP⟩ nm s w' (hg.b.ext h) rfl hn.le hs)
  have HNL := Lib.hid fun (q : Pt) w' (h : Ext w w') (hq : PtI w' 100 q) (hqp : q.P = ⟨[nm], true⟩) => (show Calls Tryz.prog 42 #[.agg #[.bool false, .slice ba bn bc, .bool true, .slice q.a q.n q.c, .bool q.P.rest], .agg #[.slice ba bn bc, .bool true]] w' (NvO nm w') from
    NarrowLeft_vw ⟨false, ⟨ba, bn, bc, vwP⟩, q⟩ ⟨ba, bn, bc, vwP⟩ nm w' ⟨hg.b.ext h, hq⟩ (hg.b.ext h) hn rfl hqp rfl)
  clear hg hv hs
  obtain ⟨⟨⟨ea, en, ec, eP⟩, fa, fc, F⟩, ⟨x, ⟨la, ln, lc, lP⟩, ⟨ra, rn, rc, rP⟩⟩⟩ := k
  obtain ⟨post, hpo⟩ : ∃ q : Ending → World → Prop, q = NwO nm ⟨⟨ba, bn, bc, vwP⟩, ha, hc, []⟩ w := ⟨_, rfl⟩
  rw [← hpo]
  have HPO := Lib.hid hpo
  have HX := Lib.hid (boxes4 w #[.int .i64 1, .slice p 1 cp, .bool true, .slice none 0 0, .bool false] #[.slice ea en ec, .bool eP.rest, .slice fa F.length fc, .int .i64 1, .bool x, .slice la ln lc, .bool lP.rest, .slice ra rn rc, .bool rP.rest] #[.slice ba bn bc, .bool true, .slice ha 0 hc] #[.slice none 0 0, .bool false, .slice none 0 0, .int .i64 0, .bool false, .slice none 0 0, .bool false, .slice none 0 0, .bool false] 41 95 55 95)
  clear hpo
  show Calls Tryz.prog 98 #[.string s, .agg #[.int .i64 1, .slice p 1 cp, .bool true, .slice none 0 0, .bool false], .agg #[.slice ea en ec, .bool eP.rest, .slice fa F.length fc, .int .i64 1, .bool x, .slice la ln lc, .bool lP.rest, .slice ra rn rc, .bool rP.rest], .agg #[.slice ba bn bc, .bool true, .slice ha 0 hc]] w post
  go_enter Tryz.func98, Tryz.ntmps98
  go_upto_region 1 with fail
  generalize (((w.alloc (.cells #[.int .i64 1, .slice p 1 cp, .bool true, .slice none 0 0, .bool false] 41)).alloc (.cells #[.slice ea en ec, .bool eP.rest, .slice fa F.length fc, .int .i64 1, .bool x, .slice la ln lc, .bool lP.rest, .slice ra rn rc, .bool rP.rest] 95)).alloc (.cells #[.slice ba bn bc, .bool true, .slice ha 0 hc] 55)).alloc (.cells #[.slice none 0 0, .bool false, .slice none 0 0, .int .i64 0, .bool false, .slice none 0 0, .bool false, .slice none 0 0, .bool false] 95) = w2 at HX ⊢
  obtain ⟨hx2, hh1, hh2, hh3, hh4⟩ := HX.out
  have HX2 := Lib.hid hx2
  have HB1 := Lib.hid hh1
  have HB2 := Lib.hid hh2
  have HB3 := Lib.hid hh3
  have HB4 := Lib.hid hh4
  obtain ⟨b, hb⟩ : ∃ b, b = w.heap.size := ⟨_, rfl⟩
  rw [← hb] at HB1 HB2 HB3 HB4 ⊢
  have HBB := Lib.hid hb
  have HA := Lib.hid (Ext.alloc' w2 (.cells #[.bool false, .slice none 0 0, .bool false, .slice none 0 0, .bool false] 48))
  have HNR := Lib.hid (heap_alloc_new w2 (.cells #[.bool false, .slice none 0 0, .bool false, .slice none 0 0, .bool false] 48))
  have HSZ := Lib.hid (show b + 3 < w2.heap.size from (Array.getElem?_eq_some_iff.1 HB4.out).1)
  clear hx2 hh1 hh2 hh3 hh4 HX hb
  go_upto_region 2 with fail
  change Code.wp _ _ _ _ (w2.alloc (.cells #[.bool false, .slice none 0 0, .bool false, .slice none 0 0, .bool false] 48))
  generalize w2.alloc (.cells #[.bool false, .slice none 0 0, .bool false, .slice none 0 0, .bool false] 48) = w3 at HA HNR ⊢
  generalize w2.heap.size = g10 at HNR HSZ ⊢
  have c28 := box_at (HA.out.heap' HB2.out) 3 _ rfl
  have c34 := box_at (HA.out.heap' HB1.out) 0 _ rfl
  have HX3 := Lib.hid (HX2.out.trans' HA.out)
  go_upto_region 4 with (first
    | (go_at_call 132; (with_reducible refine (ownKind_any _).mono ?_); rintro en w4 ⟨rfl, hx4⟩; have HX4 := Lib.hid hx4; clear hx4)
    | fail)
  have HX5 := Lib.hid (HX3.out.trans' HX4.out)
  have HQ3 := Lib.hid (HX4.out.heap' (HA.out.heap' HB3.out))
  have HQ4 := Lib.hid (HX4.out.heap' (HA.out.heap' HB4.out))
  have HQR := Lib.hid (HX4.out.heap' HNR.out)
  clear c28 c34
  have E5 := Ext.drew' w4
  refine wp_region_z (fun w' => w'.heap[b + 2]? = some (.cells #[.slice ba bn bc, .bool true, .slice ha 0 hc] 55)) (E5.heap' HQ3.out) [7] (.qs [0, 1, 2, 3, 4] (.l 5 (.qs [6] (.l 7 .nil)))) (by kernel_rfl) (by kernel_rfl) ?_
  ((refine wpZ_q rfl rfl _ (fun w' hx' => by go_simp; try rfl) ?_; go_simp))
  refine wpZ_q rfl rfl (.agg #[.slice ba bn bc, .bool true]) (fun w' hx' => by have d0 := box_at hx' 0 _ rfl; have d1 := box_at hx' 1 _ rfl; go_simp; try rfl) ?_
  go_simp
  ((refine wpZ_q rfl rfl _ (fun w' hx' => by go_simp; try rfl) ?_; go_simp))
  refine wpZ_q rfl rfl (.agg #[.slice ba bn bc, .bool true]) (fun w' hx' => by have d0 := box_at hx' 0 _ rfl; have d1 := box_at hx' 1 _ rfl; go_simp; try rfl) ?_
  go_simp
  ((refine wpZ_q rfl rfl _ (fun w' hx' => by go_simp; try rfl) ?_; go_simp))
  refine wpZ_l rfl rfl ?_
  go_simp
  refine (HST.out _ (HX5.out.trans' E5)).mono ?_
  rintro en w6 ⟨⟨qa, qn, qc, qP⟩, hqp, rfl, hqo, hx6⟩
  have HX6 := Lib.hid (E5.trans' hx6)
  have HQP := Lib.hid (show qP = ⟨[nm], true⟩ from hqp)
  have HQO := Lib.hid hqo
  have HXW := Lib.hid (HX5.out.trans' HX6.out)
  have HQ5 := Lib.hid (HX6.out.heap' HQ3.out)
  have HQ6 := Lib.hid (HX6.out.heap' HQ4.out)
  have HQ7 := Lib.hid (HX6.out.heap' HQR.out)
  refine ⟨HQ5.out, ?_⟩
  clear hqp hqo hx6 E5
  go_simp
  ((refine wpZ_q rfl rfl _ (fun w' hx' => by go_simp; try rfl) ?_; go_simp))
  go_simp
  refine wpZ_l rfl rfl (wp_store_row _ _ _ rfl g10 #[.bool false, .slice ba bn bc, .bool true, .slice qa qn qc, .bool qP.rest] rfl rfl _ _ HQ7.out (by kernel_rfl) rfl (by simp [Value.oneCell']) ?_)
  have HG1 := Lib.hid (show (w6.setRow g10 #[.bool false, .slice ba bn bc, .bool true, .slice qa qn qc, .bool qP.rest]).heap[g10]? = some (.cells #[.bool false, .slice ba bn bc, .bool true, .slice qa qn qc, .bool qP.rest] 48) from setRow_heap _ _ _ _ _ _ HQ7.out)
  have hs10 := HSZ.out
  have HG2 := Lib.hid (heap_keep HQ5.out (grown_setRow w6 g10 #[.bool false, .slice ba bn bc, .bool true, .slice qa qn qc, .bool qP.rest]) (by omega))
  have HG3 := Lib.hid (heap_keep HQ6.out (grown_setRow w6 g10 #[.bool false, .slice ba bn bc, .bool true, .slice qa qn qc, .bool qP.rest]) (by omega))
  have HG4 := Lib.hid (Ext.setRow (cs := #[.bool false, .slice ba bn bc, .bool true, .slice qa qn qc, .bool qP.rest]) HXW.out (g := g10) (by rw [← HBB.out]; omega))
  have HG5 := Lib.hid (show PtO (w6.setRow g10 #[.bool false, .slice ba bn bc, .bool true, .slice qa qn qc, .bool qP.rest]) _ 100 ⟨qa, qn, qc, qP⟩ from ⟨own_other HQO.out.own (grown_setRow _ _ _) (fun e => own_apart HQO.out.own HQ7.out (by decide) e.symm), HQO.out.small⟩)
  refine ⟨fun h => absurd h (by decide), wpZ_nil ?_⟩
  generalize w6.setRow g10 #[.bool false, .slice ba bn bc, .bool true, .slice qa qn qc, .bool qP.rest] = w7 at HG1 HG2 HG3 HG4 HG5 ⊢
  have hr40 := box_part HG1.out 0 [.bool false, .slice ba bn bc, .bool true, .slice qa qn qc, .bool qP.rest] rfl
  have hr42 := box_part HG2.out 0 [.slice ba bn bc, .bool true] rfl
  go_upto_region 10 with (first
    | ((with_reducible refine atSlot 40 ?_); refine wpList_of_wp rfl (wp_load_mid (op := ⟨some 40, _, _, _, _, _⟩) 48 _ rfl g10 0 rfl [.bool false, .slice ba bn bc, .bool true, .slice qa qn qc, .bool qP.rest] _ hr40 Tryz.underlying48 rfl (by kernel_rfl) ?_); clear hr40)
    | ((with_reducible refine atSlot 42 ?_); refine wpList_of_wp rfl (wp_load_mid (op := ⟨some 42, _, _, _, _, _⟩) 39 _ rfl (b + 1 + 1) 0 rfl [.slice ba bn bc, .bool true] _ hr42 Tryz.underlying39 rfl (by kernel_rfl) ?_); clear hr42)
    | (go_at_call 42; (with_reducible refine (HNL.out ⟨qa, qn, qc, qP⟩ _ HG4.out HG5.out.i HQP.out).mono ?_); rintro en w8 ⟨⟨y, ⟨ma, mn, mc, mP⟩, ⟨ga, gn, gc, gP⟩⟩, rfl, h1, h2, h3, hx8⟩; have H1 := Lib.hid h1; have H2 := Lib.hid h2; have H3 := Lib.hid h3; have HX8 := Lib.hid hx8; have HP8 := Lib.hid (put_new w8 #[.bool false, .slice none 0 0, .bool false, .slice none 0 0, .bool false] #[.bool y, .slice ma mn mc, .bool mP.rest, .slice ga gn gc, .bool gP.rest] 48); have hn8 := heap_alloc_new w8 (.cells #[.bool false, .slice none 0 0, .bool false, .slice none 0 0, .bool false] 48); clear h1 h2 h3 hx8)
    | ((with_reducible refine atStore 12 ?_); refine wpList_of_wp rfl (wp_store_row (o := ⟨none, _, _, _, _, _⟩) _ _ _ rfl w8.heap.size #[.bool y, .slice ma mn mc, .bool mP.rest, .slice ga gn gc, .bool gP.rest] rfl rfl _ _ hn8 (by kernel_rfl) rfl (by simp [Value.oneCell']) ?_); clear hn8)
    | fail)
  have HSW := Lib.hid (show w.heap.size ≤ w7.heap.size from HG4.out.size)
  generalize (w8.alloc (.cells #[.bool false, .slice none 0 0, .bool false, .slice none 0 0, .bool false] 48)).setRow w8.heap.size #[.bool y, .slice ma mn mc, .bool mP.rest, .slice ga gn gc, .bool gP.rest] = w9 at HP8 ⊢
  obtain ⟨hx9, hb9⟩ := HP8.out
  have HX9 := Lib.hid (HX8.out.trans' hx9)
  have HK2 := Lib.hid (HX9.out.heap' HG2.out)
  have HK3 := Lib.hid (HX9.out.heap' HG3.out)
  have HRO := Lib.hid (show RlO w9 w.heap.size 200 ⟨y, ⟨ma, mn, mc, mP⟩, ⟨ga, gn, gc, gP⟩⟩ from (H3.out.ext hx9).base HSW.out)
  have hr50 := box_part HK2.out 0 [.slice ba bn bc, .bool true, .slice ha 0 hc] rfl
  have hr52 := box_part hb9 0 [.bool y, .slice ma mn mc, .bool mP.rest, .slice ga gn gc, .bool gP.rest] rfl
  generalize w8.heap.size = g12 at hr52 ⊢
  clear hx9 hb9 HP8
  go_wp2_with (first
    | ((with_reducible refine atSlot 50 ?_); refine wpList_of_wp rfl (wp_load_mid (op := ⟨some 50, _, _, _, _, _⟩) 55 _ rfl (b + 1 + 1) 0 rfl [.slice ba bn bc, .bool true, .slice ha 0 hc] _ hr50 Tryz.underlying55 rfl (by kernel_rfl) ?_); clear hr50)
    | ((with_reducible refine atSlot 52 ?_); refine wpList_of_wp rfl (wp_load_mid (op := ⟨some 52, _, _, _, _, _⟩) 48 _ rfl g12 0 rfl [.bool y, .slice ma mn mc, .bool mP.rest, .slice ga gn gc, .bool gP.rest] _ hr52 Tryz.underlying48 rfl (by kernel_rfl) ?_); clear hr52)
    | ((with_reducible refine atStore 8 ?_); refine wpList_of_wp rfl (wp_store_row (o := ⟨none, _, _, _, _, _⟩) _ _ _ rfl (b + 1 + 1 + 1) #[.slice ba bn bc, .bool true, .slice ha 0 hc, .int .i64 1, .bool y, .slice ma mn mc, .bool mP.rest, .slice ga gn gc, .bool gP.rest] rfl rfl _ _ HK3.out (by kernel_rfl) rfl (by simp [Value.oneCell']) ?_))
    | fail)
  refine bodyPost_ret (results_c1 (ty := 95) rfl _ (b + 1 + 1 + 1) [.slice ba bn bc, .bool true, .slice ha 0 hc, .int .i64 1, .bool y, .slice ma mn mc, .bool mP.rest, .slice ga gn gc, .bool gP.rest] _ rfl (box_part (setRow_heap _ _ _ _ _ _ HK3.out) 0 _ rfl) Tryz.underlying95 rfl (by kernel_rfl)) rfl ?_
  rw [HPO.out]
  exact ⟨⟨y, ⟨ma, mn, mc, mP⟩, ⟨ga, gn, gc, gP⟩⟩, rfl, H1.out, H2.out, ⟨⟨own_other HRO.out.l.own (grown_setRow _ _ _) (fun e => own_apart HRO.out.l.own HK3.out (by decide) e.symm), HRO.out.l.small⟩, ⟨own_other HRO.out.r.own (grown_setRow _ _ _) (fun e => own_apart HRO.out.r.own HK3.out (by decide) e.symm), HRO.out.r.small⟩⟩, (HG4.out.trans' HX9.out).setRow (by rw [HBB.out]; omega)⟩
end Go.Proofs.YtejljmikammcdaaGreatDoor
/-
  Layer stream, at the two streams of awake08: entry.
-/
namespace Go.Proofs.YtejljmikammcdaaGreatDoor
open Go.RowKit Go.WideMaps

/-- What entry answers. -/
def EyO (nm : Str) (w : World) (en : Ending) (w' : World) : Prop := ∃ e : En, en = .returned (.tuple #[e.v, .int .i64 0]) ∧ e.l.P = ⟨[nm], true⟩ ∧ e.r.P = vwP ∧ e.hs = [] ∧ EnO w' w.heap.size 200 e ∧ Ext w w'
set_option maxRecDepth 100000 in
set_option maxHeartbeats 8000000 in
theorem entry_any (nm : Str) (k : Pc) (w : World) (hn : Nm nm) (hk : RlI w 200 k.r) (h1 : k.r.l.P = vwP) (h2 : k.r.r.P = ⟨[nm], true⟩) (hh : k.g.hs = []) :
    Calls Tryz.prog 73 #[k.v] w (EyO nm w) := by
  have HTU := Lib.hid fun w' (h : Ext w w') => RTurn_any k.r 200 w' (hk.ext h) (by have h3 := hk.l.len; rw [h1] at h3; have : k.r.l.n = 1 := h3.symm; omega) (by have h3 := hk.r.len; rw [h2] at h3; have : k.r.r.n = 1 := h3.symm; omega)
  rw [h1, h2] at HTU
  clear hk h1 h2
  have HRD := Lib.hid fun (m : Pt) w' (hm : PtI w' 200 m) (ho : m.P = ⟨[nm], true⟩) => (show Calls Tryz.prog 18 #[m.v, .slice none 0 0] w' (RedO m.P [] 200 w') from Reduce_any m none 0 [] 200 w' hm (PtsI.nil _ _) (by rw [ho]; exact hn.ok) (fun q hq => nomatch hq) (by decide) (by decide))
  obtain ⟨⟨⟨ea, en, ec, eP⟩, fa, fc, F⟩, ⟨x, ⟨la, ln, lc, lP⟩, ⟨ra, rn, rc, rP⟩⟩⟩ := k
  obtain rfl : F = [] := hh
  obtain ⟨post, hpo⟩ : ∃ q : Ending → World → Prop, q = EyO nm w := ⟨_, rfl⟩
  rw [← hpo]
  have HPO := Lib.hid hpo
  have HX := Lib.hid (two_boxes w #[.slice ea en ec, .bool eP.rest, .slice fa 0 fc, .int .i64 1, .bool x, .slice la ln lc, .bool lP.rest, .slice ra rn rc, .bool rP.rest] #[.slice none 0 0, .bool false, .slice none 0 0, .bool false, .slice none 0 0] 95 60)
  clear hpo
  show Calls Tryz.prog 73 #[.agg #[.slice ea en ec, .bool eP.rest, .slice fa 0 fc, .int .i64 1, .bool x, .slice la ln lc, .bool lP.rest, .slice ra rn rc, .bool rP.rest]] w post
  go_enter Tryz.func73, Tryz.ntmps73
  go_upto_region 1 with fail
  generalize (w.alloc (.cells #[.slice ea en ec, .bool eP.rest, .slice fa 0 fc, .int .i64 1, .bool x, .slice la ln lc, .bool lP.rest, .slice ra rn rc, .bool rP.rest] 95)).alloc (.cells #[.slice none 0 0, .bool false, .slice none 0 0, .bool false, .slice none 0 0] 60) = w2 at HX ⊢
  obtain ⟨hx2, hh1, hh2⟩ := HX.out
  have HX2 := Lib.hid hx2
  have HB1 := Lib.hid hh1
  have HB2 := Lib.hid hh2
  obtain ⟨b, hb⟩ : ∃ b, b = w.heap.size := ⟨_, rfl⟩
  rw [← hb] at HB1 HB2 ⊢
  have HBB := Lib.hid hb
  have hr13 := box_part HB1.out 4 [.bool x, .slice la ln lc, .bool lP.rest, .slice ra rn rc, .bool rP.rest] rfl
  clear hx2 hh1 hh2 HX hb
  go_upto_region 2 with (first
    | ((with_reducible refine atSlot 13 ?_); refine wpList_of_wp rfl (wp_load_mid (op := ⟨some 13, _, _, _, _, _⟩) 48 _ rfl b 4 rfl [.bool x, .slice la ln lc, .bool lP.rest, .slice ra rn rc, .bool rP.rest] _ hr13 Tryz.underlying48 rfl (by kernel_rfl) ?_); clear hr13)
    | (go_at_call 67; (with_reducible refine (HTU.out _ HX2.out).mono ?_); rintro en w3 ⟨⟨y, ⟨ma, mn, mc, mP⟩, ⟨ga, gn, gc, gP⟩⟩, -, h1, h2, rfl, h3, hx3⟩; have H1 := Lib.hid (show mP = ⟨[nm], true⟩ from h1); have H2 := Lib.hid (show gP = vwP from h2); have H3 := Lib.hid h3; have HX3 := Lib.hid hx3; have HP3 := Lib.hid (put_new w3 #[.bool false, .slice none 0 0, .bool false, .slice none 0 0, .bool false] #[.bool y, .slice ma mn mc, .bool mP.rest, .slice ga gn gc, .bool gP.rest] 48); have hn3 := heap_alloc_new w3 (.cells #[.bool false, .slice none 0 0, .bool false, .slice none 0 0, .bool false] 48); clear h1 h2 h3 hx3)
    | ((with_reducible refine atStore 4 ?_); refine wpList_of_wp rfl (wp_store_row (o := ⟨none, _, _, _, _, _⟩) _ _ _ rfl w3.heap.size #[.bool y, .slice ma mn mc, .bool mP.rest, .slice ga gn gc, .bool gP.rest] rfl rfl _ _ hn3 (by kernel_rfl) rfl (by simp [Value.oneCell']) ?_); clear hn3)
    | fail)
  have HSW := Lib.hid (show w.heap.size ≤ w2.heap.size from HX2.out.size)
  generalize (w3.alloc (.cells #[.bool false, .slice none 0 0, .bool false, .slice none 0 0, .bool false] 48)).setRow w3.heap.size #[.bool y, .slice ma mn mc, .bool mP.rest, .slice ga gn gc, .bool gP.rest] = w4 at HP3 ⊢
  obtain ⟨hx4, hb4⟩ := HP3.out
  have HX4 := Lib.hid (HX3.out.trans' hx4)
  have HB4 := Lib.hid hb4
  have HRO := Lib.hid (show RlO w4 w.heap.size 200 ⟨y, ⟨ma, mn, mc, mP⟩, ⟨ga, gn, gc, gP⟩⟩ from (H3.out.ext hx4).base HSW.out)
  have c17 := box_at (HX4.out.heap' HB1.out) 2 _ rfl
  generalize w3.heap.size = g4 at HB4 ⊢
  clear hx4 hb4 HP3
  go_wp2
  go_loopw [5, 19] (IzRel w4 0) (fun _ v _ => 0 - (intOf v).toNat)
  case atStart => exact ⟨0, rfl, rfl, Nat.le_refl _, Below.refl _ _⟩
  case round =>
    obtain ⟨j, rfl, rfl, hj, hx⟩ := hrel
    rename World => wd
    obtain rfl : j = 0 := by omega
    have HXD := Lib.hid (show Ext w4 wd from hx)
    have HXW := Lib.hid (HX2.out.trans' (HX4.out.trans' hx))
    have HBD := Lib.hid (hx.heap' HB4.out)
    have HRD2 := Lib.hid (HRO.out.ext hx)
    have hr41 := box_part HBD.out 1 [.slice ma mn mc, .bool mP.rest] rfl
    have HBE := Lib.hid (HX4.out.heap' HB2.out)
    clear hx hj
    go_upto_region 13 with (first
      | ((with_reducible refine atSlot 41 ?_); refine wpList_of_wp rfl (wp_load_mid (op := ⟨some 41, _, _, _, _, _⟩) 39 _ rfl g4 1 rfl [.slice ma mn mc, .bool mP.rest] _ hr41 Tryz.underlying39 rfl (by kernel_rfl) ?_); clear hr41)
      | (go_at_call 18; (with_reducible refine (HRD.out ⟨ma, mn, mc, mP⟩ _ HRD2.out.l.i H1.out).mono ?_); rintro en w5 ⟨⟨⟨da, dn, dc, dP⟩, ha, hc, D⟩, rfl, h7, h8, h9, hx5⟩; have HDP := Lib.hid (show dP = ⟨[nm], true⟩ from h7.trans H1.out); have HRE := Lib.hid h8; have HRG := Lib.hid h9; have HX5 := Lib.hid hx5; have HP5 := Lib.hid (put_new w5 #[.slice none 0 0, .bool false, .slice none 0 0] #[.slice da dn dc, .bool dP.rest, .slice ha D.length hc] 55); have hn5 := heap_alloc_new w5 (.cells #[.slice none 0 0, .bool false, .slice none 0 0] 55); clear h7 h8 h9 hx5)
      | ((with_reducible refine atStore 11 ?_); refine wpList_of_wp rfl (wp_store_row (o := ⟨none, _, _, _, _, _⟩) _ _ _ rfl w5.heap.size #[.slice da dn dc, .bool dP.rest, .slice ha D.length hc] rfl rfl _ _ hn5 (by kernel_rfl) rfl (by simp [Value.oneCell']) ?_); clear hn5)
      | fail)
    have HD := Lib.hid (show D = [] from by
      have h := HRE.out.len
      rw [List.length_map] at h
      exact List.eq_nil_of_length_eq_zero (Nat.le_zero.1 h))
    generalize (w5.alloc (.cells #[.slice none 0 0, .bool false, .slice none 0 0] 55)).setRow w5.heap.size #[.slice da dn dc, .bool dP.rest, .slice ha D.length hc] = w6 at HP5 ⊢
    obtain ⟨hx6, hb6⟩ := HP5.out
    have HX6 := Lib.hid (HX5.out.trans' hx6)
    have HR6 := Lib.hid (show RgO w6 w.heap.size 200 ⟨⟨da, dn, dc, dP⟩, ha, hc, D⟩ from (HRG.out.ext hx6).base HXW.out.size)
    have HRL := Lib.hid (HRD2.out.ext HX6.out)
    have HBF := Lib.hid (HX6.out.heap' (HXD.out.heap' HBE.out))
    have hr45 := box_part hb6 0 [.slice da dn dc, .bool dP.rest] rfl
    have c49 := box_at hb6 2 _ rfl
    have hr47 := box_part (HX6.out.heap' HBD.out) 3 [.slice ga gn gc, .bool gP.rest] rfl
    generalize w5.heap.size = g5 at hr45 c49 ⊢
    clear hx6 hb6 HP5
    go_wp2_with (first
      | ((with_reducible refine atSlot 45 ?_); refine wpList_of_wp rfl (wp_load_mid (op := ⟨some 45, _, _, _, _, _⟩) 39 _ rfl g5 0 rfl [.slice da dn dc, .bool dP.rest] _ hr45 Tryz.underlying39 rfl (by kernel_rfl) ?_); clear hr45)
      | ((with_reducible refine atSlot 47 ?_); refine wpList_of_wp rfl (wp_load_mid (op := ⟨some 47, _, _, _, _, _⟩) 39 _ rfl g4 3 rfl [.slice ga gn gc, .bool gP.rest] _ hr47 Tryz.underlying39 rfl (by kernel_rfl) ?_); clear hr47)
      | ((with_reducible refine atStore 2 ?_); refine wpList_of_wp rfl (wp_store_row (o := ⟨none, _, _, _, _, _⟩) _ _ _ rfl (b + 1) #[.slice da dn dc, .bool dP.rest, .slice ga gn gc, .bool gP.rest, .slice ha D.length hc] rfl rfl _ _ HBF.out (by kernel_rfl) rfl (by simp [Value.oneCell']) ?_))
      | fail)
    refine bodyPost_ret (results_c1 (ty := 60) rfl _ (b + 1) [.slice da dn dc, .bool dP.rest, .slice ga gn gc, .bool gP.rest, .slice ha D.length hc] _ rfl (box_part (setRow_heap _ _ _ _ _ _ HBF.out) 0 _ rfl) Tryz.underlying60 rfl (by kernel_rfl)) rfl ?_
    rw [HPO.out]
    have h0 := HD.out
    subst h0
    refine ⟨⟨⟨da, dn, dc, dP⟩, ⟨ga, gn, gc, gP⟩, ha, hc, []⟩, rfl, HDP.out, H2.out, rfl, ?_, (HXW.out.trans' HX6.out).setRow (by rw [HBB.out]; omega)⟩
    have hgr := grown_setRow w6 (b + 1) #[.slice da dn dc, .bool dP.rest, .slice ga gn gc, .bool gP.rest, .slice ha 0 hc]
    exact EnO.grown ⟨HR6.out.b, HRL.out.r, HR6.out.hs⟩ hgr HBF.out (by decide) (by decide)
end Go.Proofs.YtejljmikammcdaaGreatDoor
