/-
  Layer stream, at the two streams of awake08: view, View, Between.
-/
import Derived.Test.YtejljmikammcdaaGreatDoorStJ
namespace Go.Proofs.YtejljmikammcdaaGreatDoor
open Go.RowKit Go.WideMaps

theorem heap_setCells2 {w : World} {g o : Nat} {cs : Array Value} {t : TypeId} (x y : Value) (h : w.heap[g]? = some (.cells cs t (0, 0))) : (w.setCells g o [x, y]).heap[g]? = some (.cells ((cs.setIfInBounds o x).setIfInBounds (o + 1) y) t (0, 0)) :=
  heap_setCell_same _ _ _ _ _ _ (heap_setCell_same _ _ _ _ _ _ h)
theorem there_cells {w : World} {g i m : Nat} {cs : Array Value} {t : TypeId} (h : w.heap[g]? = some (.cells cs t (0, 0))) (hi : i + m ≤ cs.size) : w.there g i m := fun j hj => by
  refine ⟨?_, frozen_none h _⟩
  rw [cell_of_row w g _ _ _ _ h, Array.getElem?_eq_getElem (by omega)]
  rfl
/-- An entry without holes. -/
structure EnG (w : World) (B : Nat) (p q : Pat) (e : En) : Prop where
  l : e.l.P = p
  r : e.r.P = q
  hs : e.hs = []
  o : EnO w B 200 e
theorem EnG.ext {w w' : World} {B : Nat} {p q : Pat} {e : En} (h : EnG w B p q e) (hx : Ext w w') : EnG w' B p q e := ⟨h.l, h.r, h.hs, h.o.ext hx⟩
theorem EnG.base {w : World} {B B' : Nat} {p q : Pat} {e : En} (h : EnG w B' p q e) (hB : B ≤ B') : EnG w B p q e := ⟨h.l, h.r, h.hs, h.o.base hB⟩
def VwO (w : World) (en : Ending) (w' : World) : Prop := ∃ (x : Option Addr) (cx : Nat) (k : Pc) (x' : Option Addr) (cx' : Nat) (e : En), en = .returned (.tuple #[.slice x 1 cx, .slice x' 1 cx', .int .i64 0]) ∧ w'.ownsRow w.heap.size 95 9 (.slice x 1 cx) 1 k.cells ∧ PcG w' w.heap.size [100, 101, 118] k ∧ w'.ownsRow w.heap.size 60 5 (.slice x' 1 cx') 1 e.cells ∧ EnG w' w.heap.size deP vwP e ∧ Ext w w'
/-- Between two rounds: no entry yet, or the one. -/
def VwR (w0 w : World) (q : Pat) (v9 v : Value) (wr : World) : Prop := ∃ j : Nat, v = .int .i64 j ∧ Ext w wr ∧ ((j = 0 ∧ v9 = .slice none 0 0) ∨ (j = 1 ∧ ∃ (x : Option Addr) (cx : Nat) (e : En), v9 = .slice x 1 cx ∧ wr.ownsRow w0.heap.size 60 5 (.slice x 1 cx) 1 e.cells ∧ EnG wr w0.heap.size deP q e))
set_option maxRecDepth 100000 in
set_option maxHeartbeats 8000000 in
theorem view1 (g m : Nat) (a : Option Addr) (c : Nat) (b : Option Addr) (cb : Nat) (p : Option Addr) (cp : Nat) (w : World) (h : Da w a c b cb p cp) (hf : Fo w g m a c) :
    Calls Tryz.prog 39 #[.pointer (some ⟨g, 0, none⟩), .int .i64 1] w (VwO w) := by
  have HPC := Lib.hid (pieces1 g m a c b cb p cp w h hf)
  obtain ⟨post, hpo⟩ : ∃ q : Ending → World → Prop, q = VwO w := ⟨_, rfl⟩
  rw [← hpo]
  have HPO := Lib.hid hpo
  clear hf h hpo
  go_enter Tryz.func39, Tryz.ntmps39
  go_wp2_with (first
    | (go_at_call 72; (with_reducible refine HPC.out.mono ?_); rintro en w4 ⟨x7, c7, k7, rfl, ho4, hk4, hx4⟩; have HX4 := Lib.hid hx4; have HO7 := Lib.hid ho4; have HK7 := Lib.hid hk4; clear ho4 hk4 hx4)
    | fail)
  obtain ⟨⟨⟨ea, en, ec, eP⟩, fa, fc, F⟩, ⟨y, ⟨la, ln, lc, lP⟩, ⟨ra, rn, rc, rP⟩⟩⟩ := k7
  obtain ⟨rfl, rfl⟩ : eP = vwP ∧ F = [] := ⟨HK7.out.vw.b, HK7.out.vw.hs⟩
  go_loopw [9, 25] (VwR w w4 vwP) (fun _ v _ => 1 - (intOf v).toNat)
  case atStart => exact ⟨0, rfl, Below.refl _ _, .inl ⟨rfl, rfl⟩⟩
  case round =>
    obtain ⟨j, rfl, hx, hj⟩ := hrel
    rename World => wd
    have HXD := Lib.hid (show Ext w4 wd from hx)
    have HXW := Lib.hid (HX4.out.trans' hx)
    clear hx
    rcases hj with ⟨rfl, rfl⟩ | ⟨rfl, x9, c9, e9, rfl, ho9, he9⟩
    · have hrow : Row wd x7 1 c7 9 [.slice ea en ec, .bool vwP.rest, .slice fa 0 fc, .int .i64 1, .bool y, .slice la ln lc, .bool lP.rest, .slice ra rn rc, .bool rP.rest] := (Row.of_own HO7.out).ext HXD.out
      have HPN := Lib.hid (put_new wd #[.slice none 0 0, .bool false, .slice none 0 0, .int .i64 0, .bool false, .slice none 0 0, .bool false, .slice none 0 0, .bool false] #[.slice ea en ec, .bool vwP.rest, .slice fa 0 fc, .int .i64 1, .bool y, .slice la ln lc, .bool lP.rest, .slice ra rn rc, .bool rP.rest] 95)
      have HNN := heap_alloc_new wd (.cells #[.slice none 0 0, .bool false, .slice none 0 0, .int .i64 0, .bool false, .slice none 0 0, .bool false, .slice none 0 0, .bool false] 95)
      go_upto_region 8 with (first
        | ((with_reducible refine atSlot 27 ?_); refine wpList_of_wp rfl (owp_ix (o := ⟨some 27, _, _, _, _, _⟩) _ _ rfl Tryz.elPc rfl hrow 0 rfl rfl (by decide) ?_); intro b3 o3 hc2; have hd : wd.rangeAt b3 o3 [.slice ea en ec, .bool vwP.rest, .slice fa 0 fc, .int .i64 1, .bool y, .slice la ln lc, .bool lP.rest, .slice ra rn rc, .bool rP.rest] := range_of_cells hc2; clear hc2)
        | ((with_reducible refine atSlot 28 ?_); refine wpList_of_wp rfl (wp_load_mid (op := ⟨some 28, _, _, _, _, _⟩) 95 _ rfl b3 o3 rfl [.slice ea en ec, .bool vwP.rest, .slice fa 0 fc, .int .i64 1, .bool y, .slice la ln lc, .bool lP.rest, .slice ra rn rc, .bool rP.rest] _ hd Tryz.underlying95 rfl (by kernel_rfl) ?_); clear hd)
        | ((with_reducible refine atStore 11 ?_); refine wpList_of_wp rfl (wp_store_row (o := ⟨none, _, _, _, _, _⟩) _ _ _ rfl wd.heap.size #[.slice ea en ec, .bool vwP.rest, .slice fa 0 fc, .int .i64 1, .bool y, .slice la ln lc, .bool lP.rest, .slice ra rn rc, .bool rP.rest] rfl rfl _ _ HNN (by kernel_rfl) rfl (by simp [Value.oneCell']) ?_); clear HNN)
        | fail)
      clear hrow
      generalize (wd.alloc (.cells #[.slice none 0 0, .bool false, .slice none 0 0, .int .i64 0, .bool false, .slice none 0 0, .bool false, .slice none 0 0, .bool false] 95)).setRow wd.heap.size #[.slice ea en ec, .bool vwP.rest, .slice fa 0 fc, .int .i64 1, .bool y, .slice la ln lc, .bool lP.rest, .slice ra rn rc, .bool rP.rest] = we at HPN ⊢
      obtain ⟨hxe, hbe⟩ := HPN.out
      have HXE := Lib.hid (HXD.out.trans' hxe)
      have HXWE := Lib.hid (HXW.out.trans' hxe)
      have hr30 := box_part hbe 0 [.slice ea en ec, .bool vwP.rest, .slice fa 0 fc, .int .i64 1, .bool y, .slice la ln lc, .bool lP.rest, .slice ra rn rc, .bool rP.rest] rfl
      generalize wd.heap.size = g11 at hr30 ⊢
      clear hxe hbe HPN
      have HEY := Lib.hid (show Calls Tryz.prog 73 #[.agg #[.slice ea en ec, .bool vwP.rest, .slice fa 0 fc, .int .i64 1, .bool y, .slice la ln lc, .bool lP.rest, .slice ra rn rc, .bool rP.rest]] we (EyO [100, 101, 118] we) from entry_any [100, 101, 118] ⟨⟨⟨ea, en, ec, vwP⟩, fa, fc, []⟩, ⟨y, ⟨la, ln, lc, lP⟩, ⟨ra, rn, rc, rP⟩⟩⟩ we nm_de (HK7.out.ext HXE.out).o.i HK7.out.l HK7.out.r rfl)
      go_upto_region 9 with (first
        | ((with_reducible refine atSlot 30 ?_); refine wpList_of_wp rfl (wp_load_mid (op := ⟨some 30, _, _, _, _, _⟩) 95 _ rfl g11 0 rfl [.slice ea en ec, .bool vwP.rest, .slice fa 0 fc, .int .i64 1, .bool y, .slice la ln lc, .bool lP.rest, .slice ra rn rc, .bool rP.rest] _ hr30 Tryz.underlying95 rfl (by kernel_rfl) ?_); clear hr30)
        | (go_at_call 73; (with_reducible refine HEY.out.mono ?_); rintro en wf ⟨⟨⟨da, dn, dc, dP⟩, ⟨ga, gn, gc, gP⟩, ha, hc, D⟩, rfl, h1, h2, h3, h4, hxf⟩; obtain rfl : D = [] := h3; have H1 := Lib.hid (show dP = deP from h1); have H2 := Lib.hid (show gP = vwP from h2); have H4 := Lib.hid h4; have HXF := Lib.hid hxf; have HPF := Lib.hid (put_new wf #[.slice none 0 0, .bool false, .slice none 0 0, .bool false, .slice none 0 0] #[.slice da dn dc, .bool dP.rest, .slice ga gn gc, .bool gP.rest, .slice ha 0 hc] 60); have hnf := heap_alloc_new wf (.cells #[.slice none 0 0, .bool false, .slice none 0 0, .bool false, .slice none 0 0] 60); clear h1 h2 h4 hxf)
        | ((with_reducible refine atStore 12 ?_); refine wpList_of_wp rfl (wp_store_row (o := ⟨none, _, _, _, _, _⟩) _ _ _ rfl wf.heap.size #[.slice da dn dc, .bool dP.rest, .slice ga gn gc, .bool gP.rest, .slice ha 0 hc] rfl rfl _ _ hnf (by kernel_rfl) rfl (by simp [Value.oneCell']) ?_); clear hnf)
        | fail)
      clear HEY
      generalize (wf.alloc (.cells #[.slice none 0 0, .bool false, .slice none 0 0, .bool false, .slice none 0 0] 60)).setRow wf.heap.size #[.slice da dn dc, .bool dP.rest, .slice ga gn gc, .bool gP.rest, .slice ha 0 hc] = wh at HPF ⊢
      obtain ⟨hxh, hbh⟩ := HPF.out
      have HXH := Lib.hid (HXE.out.trans' (HXF.out.trans' hxh))
      have HXWH := Lib.hid (HXWE.out.trans' (HXF.out.trans' hxh))
      have HEH := Lib.hid (show EnG wh w.heap.size deP vwP ⟨⟨da, dn, dc, dP⟩, ⟨ga, gn, gc, gP⟩, ha, hc, []⟩ from ⟨H1.out, H2.out, rfl, (H4.out.ext hxh).base HXWE.out.size⟩)
      have hr38 := box_part hbh 0 [.slice da dn dc, .bool dP.rest, .slice ga gn gc, .bool gP.rest, .slice ha 0 hc] rfl
      generalize wf.heap.size = g12 at hr38 ⊢
      clear hxh hbh HPF H4
      have HAN := Lib.hid (Ext.alloc' wh (.cells #[.slice da dn dc, .bool dP.rest, .slice ga gn gc, .bool gP.rest, .slice ha 0 hc] 60))
      have HWN := Lib.hid (HXWH.out.trans' HAN.out)
      go_wp2_with (first
        | ((with_reducible refine atSlot 38 ?_); refine wpList_of_wp rfl (wp_load_mid (op := ⟨some 38, _, _, _, _, _⟩) 60 _ rfl g12 0 rfl [.slice da dn dc, .bool dP.rest, .slice ga gn gc, .bool gP.rest, .slice ha 0 hc] _ hr38 Tryz.underlying60 rfl (by kernel_rfl) ?_); clear hr38)
        | ((with_reducible refine atSlot 40 ?_); refine wpList_of_wp rfl (owp_app (o := ⟨some 40, _, _, _, _, _⟩) _ _ rfl Tryz.elEn rfl (own_nil _ w.heap.size 60 5) rfl (Row.new wh #[.slice da dn dc, .bool dP.rest, .slice ga gn gc, .bool gP.rest, .slice ha 0 hc] 60 1 5 rfl (by decide)) (en_one ⟨⟨da, dn, dc, dP⟩, ⟨ga, gn, gc, gP⟩, ha, hc, []⟩) (by omega) (by unfold maxLen; omega) HWN.out.size ?_); intro a6 c6 wm ho6 hg6; have HO6 := Lib.hid ho6; have HXM := Lib.hid (HAN.out.trans' (below_app (Below.refl _ _) (own_nil _ _ 60 5) hg6 (Nat.le_refl _))); clear ho6 hg6)
        | fail)
      exact ⟨⟨1, by go_num, HXH.out.trans' HXM.out, .inr ⟨rfl, a6, c6, ⟨⟨da, dn, dc, dP⟩, ⟨ga, gn, gc, gP⟩, ha, hc, []⟩, rfl, HO6.out, HEH.out.ext HXM.out⟩⟩, by simp [intOf]⟩
    · go_wp2
      refine ⟨rfl, _, results_tmp3 rfl _ _ _, ?_⟩
      rw [HPO.out]
      exact ⟨x7, c7, ⟨⟨⟨ea, en, ec, vwP⟩, fa, fc, []⟩, ⟨y, ⟨la, ln, lc, lP⟩, ⟨ra, rn, rc, rP⟩⟩⟩, x9, c9, e9, rfl, own_ext HO7.out HXD.out, HK7.out.ext HXD.out, ho9, he9, HXW.out⟩
/-- View, Between: the one entry. -/
def EnvO (q : Pat) (w : World) (en : Ending) (w' : World) : Prop := ∃ (x : Option Addr) (cx : Nat) (e : En), en = .returned (.tuple #[.slice x 1 cx, .int .i64 0]) ∧ w'.ownsRow w.heap.size 60 5 (.slice x 1 cx) 1 e.cells ∧ EnG w' w.heap.size deP q e ∧ Ext w w'
set_option maxRecDepth 100000 in
set_option maxHeartbeats 8000000 in
theorem View_any (a : Option Addr) (c : Nat) (b : Option Addr) (cb : Nat) (p : Option Addr) (cp : Nat) (w : World) (h : Da w a c b cb p cp) :
    Calls Tryz.prog 15 #[.slice a 2 c, .string ⟨#[100, 101, 118]⟩] w (EnvO vwP w) := by
  have HFN := Lib.hid (find_any a c b cb p cp w h)
  have HVW := Lib.hid fun (g m : Nat) w' (hx : Ext w w') (hf : Fo w' g m a c) => view1 g m a c b cb p cp w' (h.ext hx) hf
  obtain ⟨post, hpo⟩ : ∃ q : Ending → World → Prop, q = EnvO vwP w := ⟨_, rfl⟩
  rw [← hpo]
  have HPO := Lib.hid hpo
  clear h hpo
  go_enter Tryz.func15, Tryz.ntmps15
  go_wp2_with (first
    | (go_at_call 38; (with_reducible refine HFN.out.mono ?_); rintro en w1 ⟨g, m, rfl, hfo, hx1⟩; have HX1 := Lib.hid hx1; have HF1 := Lib.hid hfo; clear hfo hx1)
    | (go_at_call 39; (with_reducible refine (HVW.out g m _ HX1.out HF1.out).mono ?_); rintro en w2 ⟨x, cx, k, x', cx', e, rfl, -, -, ho, he, hx2⟩; have HO := Lib.hid ho; have HE := Lib.hid he; have HX2 := Lib.hid hx2; clear ho he hx2)
    | fail)
  rw [HPO.out]
  exact ⟨x', cx', e, rfl, own_base HO.out HX1.out.size, HE.out.base HX1.out.size, HX1.out.trans' HX2.out⟩
set_option maxRecDepth 100000 in
set_option maxHeartbeats 8000000 in
theorem Between_any (a : Option Addr) (c : Nat) (b : Option Addr) (cb : Nat) (p : Option Addr) (cp : Nat) (w : World) (h : Da w a c b cb p cp) :
    Calls Tryz.prog 14 #[.slice a 2 c, .string ⟨#[100, 101, 118]⟩] w (EnvO maP w) := by
  have HFN := Lib.hid (find_any a c b cb p cp w h)
  have HVW := Lib.hid fun (g m : Nat) w' (hx : Ext w w') (hf : Fo w' g m a c) => view1 g m a c b cb p cp w' (h.ext hx) hf
  have HD := Lib.hid h
  obtain ⟨post, hpo⟩ : ∃ q : Ending → World → Prop, q = EnvO maP w := ⟨_, rfl⟩
  rw [← hpo]
  have HPO := Lib.hid hpo
  clear h hpo
  go_enter Tryz.func14, Tryz.ntmps14
  go_wp2_with (first
    | (go_at_call 38; (with_reducible refine HFN.out.mono ?_); rintro en w1 ⟨g, m, rfl, hfo, hx1⟩; have HX1 := Lib.hid hx1; have HF1 := Lib.hid hfo; obtain ⟨d0, d1, -⟩ := box2 hfo.box; have hrow := (HD.out.ext hx1).row; clear hfo hx1)
    | ((with_reducible refine atSlot 31 ?_); refine wpList_of_wp rfl (owp_ix (o := ⟨some 31, _, _, _, _, _⟩) _ _ rfl Tryz.elSm rfl hrow 1 rfl rfl (by decide) ?_); intro b1 o1 hc2; have e1 : w1.cell? ⟨b1, o1 + 1, none⟩ = some (.string ⟨#[109, 97, 105, 110]⟩) := hc2 1 (by decide); clear hc2 hrow)
    | (go_at_call 39; (with_reducible refine (HVW.out g m _ HX1.out HF1.out).mono ?_); clear d0 d1 e1; rintro en w4 ⟨x7, c7, k7, x', cx', e, rfl, ho4, hk4, ho, he, hx2⟩; have HO := Lib.hid ho; have HE := Lib.hid he; have HX4 := Lib.hid (HX1.out.trans' hx2); have HO7 := Lib.hid ho4; have HK7 := Lib.hid hk4; clear ho he hx2 ho4 hk4)
    | fail)
  obtain ⟨⟨⟨ea, en, ec, eP⟩, fa, fc, F⟩, ⟨y, ⟨la, ln, lc, lP⟩, ⟨ra, rn, rc, rP⟩⟩⟩ := k7
  obtain ⟨rfl, rfl⟩ : eP = vwP ∧ F = [] := ⟨HK7.out.vw.b, HK7.out.vw.hs⟩
  obtain ⟨⟨da, dn, dc, dP⟩, ⟨ga, gn, gc, gP⟩, ha, hc, D⟩ := e
  obtain rfl : D = [] := HE.out.hs
  go_loopw [12, 48] (VwR w w4 maP) (fun _ v _ => 1 - (intOf v).toNat)
  case atStart => exact ⟨0, rfl, Below.refl _ _, .inl ⟨rfl, rfl⟩⟩
  case round =>
    obtain ⟨j, rfl, hx, hj⟩ := hrel
    rename World => wd
    have HXD := Lib.hid (show Ext w4 wd from hx)
    have HXW := Lib.hid (HX4.out.trans' hx)
    clear hx
    rcases hj with ⟨rfl, rfl⟩ | ⟨rfl, x9, c9, e9, rfl, ho9, he9⟩
    · have hrow : Row wd x7 1 c7 9 [.slice ea en ec, .bool vwP.rest, .slice fa 0 fc, .int .i64 1, .bool y, .slice la ln lc, .bool lP.rest, .slice ra rn rc, .bool rP.rest] := (Row.of_own HO7.out).ext HXD.out
      have HPN := Lib.hid (put_new wd #[.slice none 0 0, .bool false, .slice none 0 0, .int .i64 0, .bool false, .slice none 0 0, .bool false, .slice none 0 0, .bool false] #[.slice ea en ec, .bool vwP.rest, .slice fa 0 fc, .int .i64 1, .bool y, .slice la ln lc, .bool lP.rest, .slice ra rn rc, .bool rP.rest] 95)
      have HNN := heap_alloc_new wd (.cells #[.slice none 0 0, .bool false, .slice none 0 0, .int .i64 0, .bool false, .slice none 0 0, .bool false, .slice none 0 0, .bool false] 95)
      go_upto_region 14 with (first
        | ((with_reducible refine atSlot 51 ?_); refine wpList_of_wp rfl (owp_ix (o := ⟨some 51, _, _, _, _, _⟩) _ _ rfl Tryz.elPc rfl hrow 0 rfl rfl (by decide) ?_); intro b3 o3 hc2; have hd : wd.rangeAt b3 o3 [.slice ea en ec, .bool vwP.rest, .slice fa 0 fc, .int .i64 1, .bool y, .slice la ln lc, .bool lP.rest, .slice ra rn rc, .bool rP.rest] := range_of_cells hc2; clear hc2)
        | ((with_reducible refine atSlot 52 ?_); refine wpList_of_wp rfl (wp_load_mid (op := ⟨some 52, _, _, _, _, _⟩) 95 _ rfl b3 o3 rfl [.slice ea en ec, .bool vwP.rest, .slice fa 0 fc, .int .i64 1, .bool y, .slice la ln lc, .bool lP.rest, .slice ra rn rc, .bool rP.rest] _ hd Tryz.underlying95 rfl (by kernel_rfl) ?_); clear hd)
        | ((with_reducible refine atStore 14 ?_); refine wpList_of_wp rfl (wp_store_row (o := ⟨none, _, _, _, _, _⟩) _ _ _ rfl wd.heap.size #[.slice ea en ec, .bool vwP.rest, .slice fa 0 fc, .int .i64 1, .bool y, .slice la ln lc, .bool lP.rest, .slice ra rn rc, .bool rP.rest] rfl rfl _ _ HNN (by kernel_rfl) rfl (by simp [Value.oneCell']) ?_); clear HNN)
        | fail)
      clear hrow
      generalize (wd.alloc (.cells #[.slice none 0 0, .bool false, .slice none 0 0, .int .i64 0, .bool false, .slice none 0 0, .bool false, .slice none 0 0, .bool false] 95)).setRow wd.heap.size #[.slice ea en ec, .bool vwP.rest, .slice fa 0 fc, .int .i64 1, .bool y, .slice la ln lc, .bool lP.rest, .slice ra rn rc, .bool rP.rest] = we at HPN ⊢
      obtain ⟨hxe, hbe⟩ := HPN.out
      have HXE := Lib.hid (HXD.out.trans' hxe)
      have HXWE := Lib.hid (HXW.out.trans' hxe)
      have HB14 := Lib.hid hbe
      generalize wd.heap.size = g14 at HB14 ⊢
      clear hxe hbe HPN
      have c54 := box_at HB14.out 3 _ rfl
      have hrow : Row we x' 1 cx' 5 [.slice da dn dc, .bool dP.rest, .slice ga gn gc, .bool gP.rest, .slice ha 0 hc] := (Row.of_own HO.out).ext HXE.out
      have HPN := Lib.hid (put_new we #[.slice none 0 0, .bool false, .slice none 0 0, .bool false, .slice none 0 0] #[.slice da dn dc, .bool dP.rest, .slice ga gn gc, .bool gP.rest, .slice ha 0 hc] 60)
      have HNN := heap_alloc_new we (.cells #[.slice none 0 0, .bool false, .slice none 0 0, .bool false, .slice none 0 0] 60)
      go_upto_region 16 with (first
        | ((with_reducible refine atSlot 58 ?_); refine wpList_of_wp rfl (owp_ix (o := ⟨some 58, _, _, _, _, _⟩) _ _ rfl Tryz.elEn rfl hrow 0 rfl rfl (by decide) ?_); intro b4 o4 hc2; have hd : we.rangeAt b4 o4 [.slice da dn dc, .bool dP.rest, .slice ga gn gc, .bool gP.rest, .slice ha 0 hc] := range_of_cells hc2; clear hc2)
        | ((with_reducible refine atSlot 59 ?_); refine wpList_of_wp rfl (wp_load_mid (op := ⟨some 59, _, _, _, _, _⟩) 60 _ rfl b4 o4 rfl [.slice da dn dc, .bool dP.rest, .slice ga gn gc, .bool gP.rest, .slice ha 0 hc] _ hd Tryz.underlying60 rfl (by kernel_rfl) ?_); clear hd)
        | ((with_reducible refine atStore 15 ?_); refine wpList_of_wp rfl (wp_store_row (o := ⟨none, _, _, _, _, _⟩) _ _ _ rfl we.heap.size #[.slice da dn dc, .bool dP.rest, .slice ga gn gc, .bool gP.rest, .slice ha 0 hc] rfl rfl _ _ HNN (by kernel_rfl) rfl (by simp [Value.oneCell']) ?_); clear HNN)
        | fail)
      clear hrow c54
      generalize (we.alloc (.cells #[.slice none 0 0, .bool false, .slice none 0 0, .bool false, .slice none 0 0] 60)).setRow we.heap.size #[.slice da dn dc, .bool dP.rest, .slice ga gn gc, .bool gP.rest, .slice ha 0 hc] = wf at HPN ⊢
      obtain ⟨hxf, hbf⟩ := HPN.out
      have HXF := Lib.hid (HXE.out.trans' hxf)
      have HXWF := Lib.hid (HXWE.out.trans' hxf)
      have HB15 := Lib.hid hbf
      have HS15 := Lib.hid (show w4.heap.size ≤ we.heap.size from HXE.out.size)
      have hr62 := box_part (hxf.heap' HB14.out) 0 [.slice ea en ec, .bool vwP.rest] rfl
      generalize we.heap.size = g15 at HB15 HS15 ⊢
      clear hxf hbf HPN
      have HST := Lib.hid (show Calls Tryz.prog 40 #[.agg #[.slice ea en ec, .bool vwP.rest], .string ⟨#[109, 97, 105, 110]⟩] wf (NewPt maP 100 wf) from stored_any ⟨ea, en, ec, vwP⟩ [109, 97, 105, 110] ⟨#[109, 97, 105, 110]⟩ wf (HK7.out.ext HXF.out).g.b.i rfl (by decide) rfl)
      go_upto_region 17 with (first
        | ((with_reducible refine atSlot 62 ?_); refine wpList_of_wp rfl (wp_load_mid (op := ⟨some 62, _, _, _, _, _⟩) 39 _ rfl g14 0 rfl [.slice ea en ec, .bool vwP.rest] _ hr62 Tryz.underlying39 rfl (by kernel_rfl) ?_); clear hr62)
        | (go_at_call 40; (with_reducible refine HST.out.mono ?_); rintro en wh ⟨⟨sa, sn, sc, sP⟩, h1, rfl, h3, hxh⟩; have H1 := Lib.hid (show sP = maP from h1); have H3 := Lib.hid h3; have HXH := Lib.hid hxh; have HB16 := Lib.hid (hxh.heap' HB15.out); clear h1 h3 hxh)
        | ((with_reducible refine atStore 65 ?_); refine wpList_of_wp rfl (wp_store_mid (op := ⟨none, _, _, _, _, _⟩) 39 _ _ rfl g15 2 #[.slice sa sn sc, .bool sP.rest] rfl rfl (there_cells HB16.out (by show 2 + 2 ≤ 5; omega)) (by kernel_rfl) (by simp [Value.oneCell']) ?_))
        | fail)
      clear HST
      have hgr := grown_setCells g15 [.slice sa sn sc, .bool sP.rest] 2 wh
      have HB17 := Lib.hid (heap_setCells2 (o := 2) (.slice sa sn sc) (.bool sP.rest) HB16.out)
      have HEH := Lib.hid (show EnG (wh.setCells g15 2 [.slice sa sn sc, .bool sP.rest]) w.heap.size deP maP ⟨⟨da, dn, dc, dP⟩, ⟨sa, sn, sc, sP⟩, ha, hc, []⟩ from ⟨HE.out.l, H1.out, rfl, EnO.grown ⟨((HE.out.base HX1.out.size).o.ext (HXF.out.trans' HXH.out)).l, (H3.out.base HXWF.out.size).mono (by decide), ((HE.out.base HX1.out.size).o.ext (HXF.out.trans' HXH.out)).hs⟩ hgr HB16.out (by decide) (by decide)⟩)
      have HXI := Lib.hid ((HXF.out.trans' HXH.out).rd hgr HS15.out)
      have HXWI := Lib.hid ((HXWF.out.trans' HXH.out).rd hgr (Nat.le_trans HX4.out.size HS15.out))
      clear hgr
      generalize wh.setCells g15 2 [.slice sa sn sc, .bool sP.rest] = wi at HB17 HEH HXI HXWI ⊢
      have hr67 := box_part HB17.out 0 [.slice da dn dc, .bool dP.rest, .slice sa sn sc, .bool sP.rest, .slice ha 0 hc] rfl
      have HAN := Lib.hid (Ext.alloc' wi (.cells #[.slice da dn dc, .bool dP.rest, .slice sa sn sc, .bool sP.rest, .slice ha 0 hc] 60))
      have HWN := Lib.hid (HXWI.out.trans' HAN.out)
      go_wp2_with (first
        | ((with_reducible refine atSlot 67 ?_); refine wpList_of_wp rfl (wp_load_mid (op := ⟨some 67, _, _, _, _, _⟩) 60 _ rfl g15 0 rfl [.slice da dn dc, .bool dP.rest, .slice sa sn sc, .bool sP.rest, .slice ha 0 hc] _ hr67 Tryz.underlying60 rfl (by kernel_rfl) ?_); clear hr67)
        | ((with_reducible refine atSlot 69 ?_); refine wpList_of_wp rfl (owp_app (o := ⟨some 69, _, _, _, _, _⟩) _ _ rfl Tryz.elEn rfl (own_nil _ w.heap.size 60 5) rfl (Row.new wi #[.slice da dn dc, .bool dP.rest, .slice sa sn sc, .bool sP.rest, .slice ha 0 hc] 60 1 5 rfl (by decide)) (en_one ⟨⟨da, dn, dc, dP⟩, ⟨sa, sn, sc, sP⟩, ha, hc, []⟩) (by omega) (by unfold maxLen; omega) HWN.out.size ?_); intro a6 c6 wm ho6 hg6; have HO6 := Lib.hid ho6; have HXM := Lib.hid (HAN.out.trans' (below_app (Below.refl _ _) (own_nil _ _ 60 5) hg6 (Nat.le_refl _))); clear ho6 hg6)
        | fail)
      exact ⟨⟨1, by go_num, HXI.out.trans' HXM.out, .inr ⟨rfl, a6, c6, ⟨⟨da, dn, dc, dP⟩, ⟨sa, sn, sc, sP⟩, ha, hc, []⟩, rfl, HO6.out, HEH.out.ext HXM.out⟩⟩, by simp [intOf]⟩
    · go_wp2
      rw [HPO.out]
      exact ⟨x9, c9, e9, rfl, ho9, he9, HXW.out⟩
end Go.Proofs.YtejljmikammcdaaGreatDoor
