/-
  Layer stream, at the two streams of awake08: pieces.
-/
import Derived.Test.YtejljmikammcdaaGreatDoorJoined13
namespace Go.Proofs.YtejljmikammcdaaGreatDoor
open Go.RowKit Go.WideMaps

/-- A piece of a stream. -/
structure PcG (w : World) (B : Nat) (nm : Str) (k : Pc) : Prop where
  vw : Vw k.g
  g : RgO w B 100 k.g
  l : k.r.l.P = vwP
  r : k.r.r.P = ⟨[nm], true⟩
  o : RlO w B 200 k.r
theorem PcG.ext {w w' : World} {B : Nat} {nm : Str} {k : Pc} (h : PcG w B nm k) (hx : Ext w w') : PcG w' B nm k := ⟨h.vw, h.g.ext hx, h.l, h.r, h.o.ext hx⟩
theorem PcG.base {w : World} {B B' : Nat} {nm : Str} {k : Pc} (h : PcG w B' nm k) (hB : B ≤ B') : PcG w B nm k := ⟨h.vw, h.g.base hB, h.l, h.r, h.o.base hB⟩
def PcsO (nm : Str) (w : World) (en : Ending) (w' : World) : Prop := ∃ (x : Option Addr) (cx : Nat) (k : Pc), en = .returned (.tuple #[.slice x 1 cx, .int .i64 0]) ∧ w'.ownsRow w.heap.size 95 9 (.slice x 1 cx) 1 k.cells ∧ PcG w' w.heap.size nm k ∧ Ext w w'
/-- Between two rounds: no piece yet, or the one. -/
def PcR (w0 w : World) (nm : Str) (v12 v : Value) (wr : World) : Prop := ∃ j : Nat, v = .int .i64 j ∧ Ext w wr ∧ ((j = 0 ∧ v12 = .slice none 0 0) ∨ (j = 1 ∧ ∃ (x : Option Addr) (cx : Nat) (k : Pc), v12 = .slice x 1 cx ∧ wr.ownsRow w0.heap.size 95 9 (.slice x 1 cx) 1 k.cells ∧ PcG wr w0.heap.size nm k))
theorem Tryz.elPc : Elem Tryz.prog 91 95 9 136 (.agg #[.slice none 0 0, .bool false, .slice none 0 0, .int .i64 0, .bool false, .slice none 0 0, .bool false, .slice none 0 0, .bool false]) := ⟨Tryz.underlying91, by kernel_rfl, rfl, by decide⟩
set_option maxRecDepth 100000 in
set_option maxHeartbeats 8000000 in
theorem pieces0 (g m : Nat) (a : Option Addr) (c : Nat) (b : Option Addr) (cb : Nat) (p : Option Addr) (cp : Nat) (w : World) (h : Da w a c b cb p cp) (hf : Fo w g m a c) :
    Calls Tryz.prog 72 #[.pointer (some ⟨g, 0, none⟩), .int .i64 0] w (PcsO [109, 97, 105, 110] w) := by
  have HPA := Lib.hid fun w' (hx : Ext w w') => parent0 g m a c b cb p cp w' (h.ext hx) (hf.ext hx)
  have HRD := Lib.hid fun w' (hx : Ext w w') => (show Calls Tryz.prog 18 #[.agg #[.slice p 1 cp, .bool true], .slice none 0 0] w' (RedO vwP [] 100 w') from Reduce_any ⟨p, 1, cp, vwP⟩ none 0 [] 100 w' (h.pt.ext hx) (PtsI.nil _ _) vw_ok (fun q hq => nomatch hq) (by decide) (by decide))
  have HF := Lib.hid hf
  have HD := Lib.hid h
  obtain ⟨post, hpo⟩ : ∃ q : Ending → World → Prop, q = PcsO [109, 97, 105, 110] w := ⟨_, rfl⟩
  rw [← hpo]
  have HPO := Lib.hid hpo
  clear hf h hpo
  go_enter Tryz.func72, Tryz.ntmps72
  go_upto_region 2 with (first
    | ((with_reducible refine atStore 6 ?_); refine Stop.of ?_)
    | fail)
  have hrv := Row.new w #[.string ⟨#[118, 105, 101, 119]⟩] 9 1 1 rfl (by decide)
  have hx1 := Ext.alloc' w (.cells #[.string ⟨#[118, 105, 101, 119]⟩] 9)
  have hs1 : (w.alloc (.cells #[.string ⟨#[118, 105, 101, 119]⟩] 9)).heap.size = w.heap.size + 1 := World.size_alloc _ _
  obtain ⟨gv, hgv⟩ : ∃ gv, gv = w.heap.size := ⟨_, rfl⟩
  rw [← hgv] at hrv hs1 ⊢
  generalize w.alloc (.cells #[.string ⟨#[118, 105, 101, 119]⟩] 9) = w1 at hrv hx1 hs1 ⊢
  rw [← hs1]
  have HRV := Lib.hid (show PtI w1 100 ⟨some ⟨gv, 0, none⟩, 1, 1, vwP⟩ from ⟨hrv, fun q hq => by
    obtain rfl : q = [118, 105, 101, 119] := by simpa [vwP] using hq
    decide⟩)
  have HX1 := Lib.hid hx1
  have HPN := Lib.hid (put_new w1 #[.slice none 0 0, .bool false] #[.slice (some ⟨gv, 0, none⟩) 1 1, .bool true] 39)
  have HNN := Lib.hid (heap_alloc_new w1 (.cells #[.slice none 0 0, .bool false] 39))
  clear hrv hx1 hs1 hgv
  refine Stop.out ?_
  go_upto_region 2 with (first
    | ((with_reducible refine atStore 6 ?_); refine wpList_of_wp rfl (wp_store_row (o := ⟨none, _, _, _, _, _⟩) _ _ _ rfl w1.heap.size #[.slice (some ⟨gv, 0, none⟩) 1 1, .bool true] rfl rfl _ _ HNN.out (by kernel_rfl) rfl (by simp [Value.oneCell']) ?_))
    | fail)
  generalize (w1.alloc (.cells #[.slice none 0 0, .bool false] 39)).setRow w1.heap.size #[.slice (some ⟨gv, 0, none⟩) 1 1, .bool true] = w2 at HPN ⊢
  obtain ⟨hx2, hb2⟩ := HPN.out
  have HX2 := Lib.hid (HX1.out.trans' hx2)
  have HRV2 := Lib.hid (HRV.out.ext hx2)
  have hr27 := box_part hb2 0 [.slice (some ⟨gv, 0, none⟩) 1 1, .bool true] rfl
  generalize w1.heap.size = g6 at hr27 ⊢
  clear hx2 hb2 HPN HNN
  go_upto_region 3 with (first
    | ((with_reducible refine atSlot 27 ?_); refine wpList_of_wp rfl (wp_load_mid (op := ⟨some 27, _, _, _, _, _⟩) 39 _ rfl g6 0 rfl [.slice (some ⟨gv, 0, none⟩) 1 1, .bool true] _ hr27 Tryz.underlying39 rfl (by kernel_rfl) ?_); clear hr27)
    | fail)
  have HAL := Lib.hid (Ext.alloc' w2 (.cells #[.slice (some ⟨gv, 0, none⟩) 1 1, .bool true, .slice none 0 0, .int .i64 1, .bool false, .slice none 0 0, .bool false, .slice none 0 0, .bool false] 95))
  have HPR := Lib.hid (Row.new w2 #[.slice (some ⟨gv, 0, none⟩) 1 1, .bool true, .slice none 0 0, .int .i64 1, .bool false, .slice none 0 0, .bool false, .slice none 0 0, .bool false] 95 1 9 rfl (by decide))
  generalize w2.alloc (.cells #[.slice (some ⟨gv, 0, none⟩) 1 1, .bool true, .slice none 0 0, .int .i64 1, .bool false, .slice none 0 0, .bool false, .slice none 0 0, .bool false] 95) = w3 at HAL HPR ⊢
  generalize w2.heap.size = gp at HPR ⊢
  have HX3 := Lib.hid (HX2.out.trans' HAL.out)
  have HPG := Lib.hid (show RgI w3 100 ⟨⟨some ⟨gv, 0, none⟩, 1, 1, vwP⟩, none, 0, []⟩ from ⟨HRV2.out.ext HAL.out, PtsI.nil _ _⟩)
  go_upto_region 9 with (first
    | (go_at_call 96; (with_reducible refine (HPA.out _ HX3.out).mono ?_); rintro en w4 ⟨rfl, hx4⟩; have HX4 := Lib.hid (HX3.out.trans' hx4); have HRW := Lib.hid (HPR.out.ext hx4); have HRG := Lib.hid (HPG.out.ext hx4); clear hx4)
    | fail)
  obtain ⟨x7, hx7⟩ : ∃ x, x = (some ⟨gp, 0, none⟩ : Option Addr) := ⟨_, rfl⟩
  obtain ⟨k7, hk7⟩ : ∃ k : Pc, k = ⟨⟨⟨some ⟨gv, 0, none⟩, 1, 1, vwP⟩, none, 0, []⟩, ⟨false, ⟨none, 0, 0, ⟨[], false⟩⟩, ⟨none, 0, 0, ⟨[], false⟩⟩⟩⟩ := ⟨_, rfl⟩
  have HR7 := Lib.hid (show Row w4 x7 1 1 9 k7.cells by rw [hx7, hk7]; exact HRW.out)
  have HG7 := Lib.hid (show RgI w4 100 k7.g by rw [hk7]; exact HRG.out)
  have HV7 := Lib.hid (show Vw k7.g by rw [hk7]; exact ⟨rfl, rfl⟩)
  rw [← hx7]
  clear hx7 hk7 HRG HRW
  obtain ⟨⟨⟨ea, en, ec, eP⟩, fa, fc, F⟩, ⟨y, ⟨la, ln, lc, lP⟩, ⟨ra, rn, rc, rP⟩⟩⟩ := k7
  obtain ⟨rfl, rfl⟩ : eP = vwP ∧ F = [] := ⟨HV7.out.b, HV7.out.hs⟩
  replace HR7 := Lib.hid (show Row w4 x7 1 1 9 [.slice ea en ec, .bool vwP.rest, .slice fa 0 fc, .int .i64 1, .bool y, .slice la ln lc, .bool lP.rest, .slice ra rn rc, .bool rP.rest] from HR7.out)
  replace HG7 := Lib.hid (show RgI w4 100 ⟨⟨ea, en, ec, vwP⟩, fa, fc, []⟩ from HG7.out)
  clear HV7
  obtain ⟨d0, d1, -⟩ := box2 (HF.out.ext HX4.out).box
  have hrow := (HD.out.ext HX4.out).row
  have HPN := Lib.hid (put_new w4 #[.string ⟨#[]⟩, .string ⟨#[]⟩, .slice none 0 0] #[.string ⟨#[109, 97, 105, 110]⟩, .string ⟨#[]⟩, .slice b 1 cb] 44)
  have HNN := heap_alloc_new w4 (.cells #[.string ⟨#[]⟩, .string ⟨#[]⟩, .slice none 0 0] 44)
  go_upto_region 10 with (first
    | ((with_reducible refine atSlot 52 ?_); refine wpList_of_wp rfl (owp_ix (o := ⟨some 52, _, _, _, _, _⟩) _ _ rfl Tryz.elSm rfl hrow 0 rfl rfl (by decide) ?_); intro b1 o1 hc2; have hd := flat_range (sm_three b cb) (show Ls[0]? = some (⟨#[109, 97, 105, 110]⟩, ⟨#[]⟩) from rfl) hc2; clear hc2)
    | ((with_reducible refine atSlot 53 ?_); refine wpList_of_wp rfl (wp_load_mid (op := ⟨some 53, _, _, _, _, _⟩) 44 _ rfl b1 o1 rfl [.string ⟨#[109, 97, 105, 110]⟩, .string ⟨#[]⟩, .slice b 1 cb] _ hd Tryz.underlying44 rfl (by kernel_rfl) ?_); clear hd)
    | ((with_reducible refine atStore 11 ?_); refine wpList_of_wp rfl (wp_store_row (o := ⟨none, _, _, _, _, _⟩) _ _ _ rfl w4.heap.size #[.string ⟨#[109, 97, 105, 110]⟩, .string ⟨#[]⟩, .slice b 1 cb] rfl rfl _ _ HNN (by kernel_rfl) rfl (by simp [Value.oneCell']) ?_); clear HNN)
    | fail)
  clear d0 d1 hrow
  generalize (w4.alloc (.cells #[.string ⟨#[]⟩, .string ⟨#[]⟩, .slice none 0 0] 44)).setRow w4.heap.size #[.string ⟨#[109, 97, 105, 110]⟩, .string ⟨#[]⟩, .slice b 1 cb] = w10 at HPN ⊢
  obtain ⟨hx10, hb10⟩ := HPN.out
  have HX10 := Lib.hid (HX4.out.trans' hx10)
  have HB11 := Lib.hid hb10
  have HR10 := Lib.hid (HR7.out.ext hx10)
  have HG10 := Lib.hid (HG7.out.ext hx10)
  have c55 := box_at hb10 2 _ rfl
  generalize w4.heap.size = g11 at HB11 c55 ⊢
  clear hx10 hb10 HPN
  go_wp2
  clear c55
  go_loopw [12, 57] (PcR w w10 [109, 97, 105, 110]) (fun _ v _ => 1 - (intOf v).toNat)
  case atStart => exact ⟨0, rfl, Below.refl _ _, .inl ⟨rfl, rfl⟩⟩
  case round =>
    obtain ⟨j, rfl, hx, hj⟩ := hrel
    rename World => wd
    have HXD := Lib.hid (show Ext w10 wd from hx)
    have HXW := Lib.hid (HX10.out.trans' hx)
    clear hx
    rcases hj with ⟨rfl, rfl⟩ | ⟨rfl, x12, c12, k12, rfl, ho12, hk12⟩
    · have hrow := (HD.out.ext HXW.out).path
      have HPN := Lib.hid (put_new wd #[.int .i64 0, .slice none 0 0, .bool false, .slice none 0 0, .bool false] #[.int .i64 1, .slice p 1 cp, .bool true, .slice none 0 0, .bool false] 41)
      have HNN := heap_alloc_new wd (.cells #[.int .i64 0, .slice none 0 0, .bool false, .slice none 0 0, .bool false] 41)
      go_upto_region 14 with (first
        | ((with_reducible refine atSlot 60 ?_); refine wpList_of_wp rfl (owp_ix (o := ⟨some 60, _, _, _, _, _⟩) _ _ rfl Tryz.elSp rfl hrow 0 rfl rfl (by decide) ?_); intro b2 o2 hc2; have hd : wd.rangeAt b2 o2 (spC p cp) := range_of_cells hc2; clear hc2)
        | ((with_reducible refine atSlot 61 ?_); refine wpList_of_wp rfl (wp_load_mid (op := ⟨some 61, _, _, _, _, _⟩) 41 _ rfl b2 o2 rfl (spC p cp) _ hd Tryz.underlying41 rfl (by kernel_rfl) ?_); clear hd)
        | ((with_reducible refine atStore 14 ?_); refine wpList_of_wp rfl (wp_store_row (o := ⟨none, _, _, _, _, _⟩) _ _ _ rfl wd.heap.size #[.int .i64 1, .slice p 1 cp, .bool true, .slice none 0 0, .bool false] rfl rfl _ _ HNN (by kernel_rfl) rfl (by simp [Value.oneCell']) ?_); clear HNN)
        | fail)
      clear hrow
      generalize (wd.alloc (.cells #[.int .i64 0, .slice none 0 0, .bool false, .slice none 0 0, .bool false] 41)).setRow wd.heap.size #[.int .i64 1, .slice p 1 cp, .bool true, .slice none 0 0, .bool false] = we at HPN ⊢
      obtain ⟨hxe, hbe⟩ := HPN.out
      have HXE := Lib.hid (HXW.out.trans' hxe)
      have HXDE := Lib.hid (HXD.out.trans' hxe)
      have HB14 := Lib.hid hbe
      generalize wd.heap.size = g14 at HB14 ⊢
      clear hxe hbe HPN
      have c63 := box_at HB14.out 0 _ rfl
      have c66 := box_at (HXDE.out.heap' HB11.out) 2 _ rfl
      have hr69 := (HD.out.ext HXE.out).path
      go_upto_region 17 with (first
        | ((with_reducible refine atSlot 69 ?_); refine wpList_of_wp rfl (owp_sl_lo (o := ⟨some 69, _, _, _, _, _⟩) _ _ rfl Tryz.elSp rfl hr69 1 rfl rfl (by decide) ?_); intro a69 hr70; clear hr70 hr69)
        | fail)
      clear c63 c66
      go_loopw [15, 71] (IzRel we 0) (fun _ v _ => 0 - (intOf v).toNat)
      case atStart => exact ⟨0, rfl, rfl, Nat.le_refl _, Below.refl _ _⟩
      case round =>
        obtain ⟨t, rfl, rfl, ht, hx⟩ := hrel
        rename World => wf
        obtain rfl : t = 0 := by omega
        have HXF := Lib.hid (HXE.out.trans' hx)
        have HXEF := Lib.hid (show Ext we wf from hx)
        have hr82 := box_part (hx.heap' HB14.out) 1 [.slice p 1 cp, .bool true] rfl
        clear hx ht
        go_upto_region 22 with (first
          | ((with_reducible refine atSlot 82 ?_); refine wpList_of_wp rfl (wp_load_mid (op := ⟨some 82, _, _, _, _, _⟩) 39 _ rfl g14 1 rfl [.slice p 1 cp, .bool true] _ hr82 Tryz.underlying39 rfl (by kernel_rfl) ?_); clear hr82)
          | (go_at_call 18; (with_reducible refine (HRD.out _ HXF.out).mono ?_); rintro en w5 ⟨⟨⟨da, dn, dc, dP⟩, ha, hc, D⟩, rfl, h7, h8, h9, hx5⟩; have HDP := Lib.hid (show dP = vwP from h7); have HRE := Lib.hid h8; have HRG := Lib.hid h9; have HX5 := Lib.hid hx5; have HP5 := Lib.hid (put_new w5 #[.slice none 0 0, .bool false, .slice none 0 0] #[.slice da dn dc, .bool dP.rest, .slice ha D.length hc] 55); have hn5 := heap_alloc_new w5 (.cells #[.slice none 0 0, .bool false, .slice none 0 0] 55); clear h7 h8 h9 hx5)
          | ((with_reducible refine atStore 18 ?_); refine wpList_of_wp rfl (wp_store_row (o := ⟨none, _, _, _, _, _⟩) _ _ _ rfl w5.heap.size #[.slice da dn dc, .bool dP.rest, .slice ha D.length hc] rfl rfl _ _ hn5 (by kernel_rfl) rfl (by simp [Value.oneCell']) ?_); clear hn5)
          | fail)
        obtain rfl : D = [] := by
          have h := HRE.out.len
          rw [List.length_map] at h
          exact List.eq_nil_of_length_eq_zero (Nat.le_zero.1 h)
        obtain rfl := HDP.out
        generalize (w5.alloc (.cells #[.slice none 0 0, .bool false, .slice none 0 0] 55)).setRow w5.heap.size #[.slice da dn dc, .bool vwP.rest, .slice ha ([] : List Pt).length hc] = w6 at HP5 ⊢
        obtain ⟨hx6, hb6⟩ := HP5.out
        have HX6 := Lib.hid (HX5.out.trans' hx6)
        have HW6 := Lib.hid (HXF.out.trans' HX6.out)
        have HE6 := Lib.hid (HXEF.out.trans' HX6.out)
        have HG18 := Lib.hid (show RgI w6 100 ⟨⟨da, dn, dc, vwP⟩, ha, hc, []⟩ from (HRG.out.ext hx6).i)
        have HB18 := Lib.hid (show w6.heap[w5.heap.size]? = some (.cells #[.slice da dn dc, .bool vwP.rest, .slice ha 0 hc] 55) from hb6)
        generalize w5.heap.size = g18 at HB18 ⊢
        clear hx6 hb6 HP5 HRE HRG HDP
        go_wp2
        go_loopw [12, 87] (PcR w w6 [109, 97, 105, 110]) (fun _ v _ => 1 - (intOf v).toNat)
        case atStart => exact ⟨0, rfl, Below.refl _ _, .inl ⟨rfl, rfl⟩⟩
        case round =>
          obtain ⟨t, rfl, hx, ht⟩ := hrel
          rename World => wg
          have HXG := Lib.hid (show Ext w6 wg from hx)
          have HWG := Lib.hid (HW6.out.trans' hx)
          clear hx
          rcases ht with ⟨rfl, rfl⟩ | ⟨rfl, x12, c12, k12, rfl, ho12, hk12⟩
          · have HEG := Lib.hid (HE6.out.trans' HXG.out)
            have HTG := Lib.hid (HXDE.out.trans' HEG.out)
            have hrow := HR10.out.ext HTG.out
            have HPN := Lib.hid (put_new wg #[.slice none 0 0, .bool false, .slice none 0 0, .int .i64 0, .bool false, .slice none 0 0, .bool false, .slice none 0 0, .bool false] #[.slice ea en ec, .bool vwP.rest, .slice fa 0 fc, .int .i64 1, .bool y, .slice la ln lc, .bool lP.rest, .slice ra rn rc, .bool rP.rest] 95)
            have HNN := heap_alloc_new wg (.cells #[.slice none 0 0, .bool false, .slice none 0 0, .int .i64 0, .bool false, .slice none 0 0, .bool false, .slice none 0 0, .bool false] 95)
            go_upto_region 25 with (first
              | ((with_reducible refine atSlot 89 ?_); refine wpList_of_wp rfl (owp_ix (o := ⟨some 89, _, _, _, _, _⟩) _ _ rfl Tryz.elPc rfl hrow 0 rfl rfl (by decide) ?_); intro b3 o3 hc2; have hd : wg.rangeAt b3 o3 [.slice ea en ec, .bool vwP.rest, .slice fa 0 fc, .int .i64 1, .bool y, .slice la ln lc, .bool lP.rest, .slice ra rn rc, .bool rP.rest] := range_of_cells hc2; clear hc2)
              | ((with_reducible refine atSlot 90 ?_); refine wpList_of_wp rfl (wp_load_mid (op := ⟨some 90, _, _, _, _, _⟩) 95 _ rfl b3 o3 rfl [.slice ea en ec, .bool vwP.rest, .slice fa 0 fc, .int .i64 1, .bool y, .slice la ln lc, .bool lP.rest, .slice ra rn rc, .bool rP.rest] _ hd Tryz.underlying95 rfl (by kernel_rfl) ?_); clear hd)
              | ((with_reducible refine atStore 20 ?_); refine wpList_of_wp rfl (wp_store_row (o := ⟨none, _, _, _, _, _⟩) _ _ _ rfl wg.heap.size #[.slice ea en ec, .bool vwP.rest, .slice fa 0 fc, .int .i64 1, .bool y, .slice la ln lc, .bool lP.rest, .slice ra rn rc, .bool rP.rest] rfl rfl _ _ HNN (by kernel_rfl) rfl (by simp [Value.oneCell']) ?_); clear HNN)
              | fail)
            clear hrow
            generalize (wg.alloc (.cells #[.slice none 0 0, .bool false, .slice none 0 0, .int .i64 0, .bool false, .slice none 0 0, .bool false, .slice none 0 0, .bool false] 95)).setRow wg.heap.size #[.slice ea en ec, .bool vwP.rest, .slice fa 0 fc, .int .i64 1, .bool y, .slice la ln lc, .bool lP.rest, .slice ra rn rc, .bool rP.rest] = wh at HPN ⊢
            obtain ⟨hxh, hbh⟩ := HPN.out
            have HXH := Lib.hid (HXG.out.trans' hxh)
            have HWH := Lib.hid (HWG.out.trans' hxh)
            have HTH := Lib.hid (HTG.out.trans' hxh)
            have HEH := Lib.hid (HEG.out.trans' hxh)
            have HB20 := Lib.hid hbh
            generalize wg.heap.size = g20 at HB20 ⊢
            clear hxh hbh HPN
            have hr92 := box_part (HXH.out.heap' HB18.out) 0 [.slice da dn dc, .bool vwP.rest, .slice ha 0 hc] rfl
            have hr94 := box_part HB20.out 0 [.slice ea en ec, .bool vwP.rest, .slice fa 0 fc] rfl
            have HRM := Lib.hid (show Calls Tryz.prog 97 #[.agg #[.slice da dn dc, .bool vwP.rest, .slice ha 0 hc], .agg #[.slice ea en ec, .bool vwP.rest, .slice fa 0 fc]] wh (RmtO wh) from RMeet_vw ⟨⟨da, dn, dc, vwP⟩, ha, hc, []⟩ ⟨⟨ea, en, ec, vwP⟩, fa, fc, []⟩ wh (HG18.out.ext HXH.out) (HG10.out.ext HTH.out) ⟨rfl, rfl⟩ ⟨rfl, rfl⟩)
            go_upto_region 26 with (first
              | ((with_reducible refine atSlot 92 ?_); refine wpList_of_wp rfl (wp_load_mid (op := ⟨some 92, _, _, _, _, _⟩) 55 _ rfl g18 0 rfl [.slice da dn dc, .bool vwP.rest, .slice ha 0 hc] _ hr92 Tryz.underlying55 rfl (by kernel_rfl) ?_); clear hr92)
              | ((with_reducible refine atSlot 94 ?_); refine wpList_of_wp rfl (wp_load_mid (op := ⟨some 94, _, _, _, _, _⟩) 55 _ rfl g20 0 rfl [.slice ea en ec, .bool vwP.rest, .slice fa 0 fc] _ hr94 Tryz.underlying55 rfl (by kernel_rfl) ?_); clear hr94)
              | (go_at_call 97; (with_reducible refine HRM.out.mono ?_); rintro en wi ⟨⟨⟨qa, qn, qc, qP⟩, ga, gc, G⟩, rfl, hv, ho, hxi⟩; obtain ⟨rfl, rfl⟩ : qP = vwP ∧ G = [] := ⟨hv.b, hv.hs⟩; have HOQ := Lib.hid ho; have HXI := Lib.hid hxi; have HPI := Lib.hid (put_new wi #[.slice none 0 0, .bool false, .slice none 0 0] #[.slice qa qn qc, .bool vwP.rest, .slice ga 0 gc] 55); have hni := heap_alloc_new wi (.cells #[.slice none 0 0, .bool false, .slice none 0 0] 55); clear hv ho hxi)
              | ((with_reducible refine atStore 21 ?_); refine wpList_of_wp rfl (wp_store_row (o := ⟨none, _, _, _, _, _⟩) _ _ _ rfl wi.heap.size #[.slice qa qn qc, .bool vwP.rest, .slice ga 0 gc] rfl rfl _ _ hni (by kernel_rfl) rfl (by simp [Value.oneCell']) ?_); clear hni)
              | fail)
            clear HRM
            generalize (wi.alloc (.cells #[.slice none 0 0, .bool false, .slice none 0 0] 55)).setRow wi.heap.size #[.slice qa qn qc, .bool vwP.rest, .slice ga 0 gc] = wj at HPI ⊢
            obtain ⟨hxj, hbj⟩ := HPI.out
            have HXJ := Lib.hid (HXI.out.trans' hxj)
            have HWJ := Lib.hid (HWH.out.trans' HXJ.out)
            have HOJ := Lib.hid (show RgO wj w.heap.size 100 ⟨⟨qa, qn, qc, vwP⟩, ga, gc, []⟩ from (HOQ.out.ext hxj).base HWH.out.size)
            have HB21 := Lib.hid hbj
            generalize wi.heap.size = g21 at HB21 ⊢
            clear hxj hbj HPI HOQ
            have c105 := box_at ((HTH.out.trans' HXJ.out).heap' HB11.out) 0 _ rfl
            have hr106 := box_part ((HEH.out.trans' HXJ.out).heap' HB14.out) 0 [.int .i64 1, .slice p 1 cp, .bool true, .slice none 0 0, .bool false] rfl
            have hr107 := box_part (HXJ.out.heap' HB20.out) 0 [.slice ea en ec, .bool vwP.rest, .slice fa 0 fc, .int .i64 1, .bool y, .slice la ln lc, .bool lP.rest, .slice ra rn rc, .bool rP.rest] rfl
            have hr108 := box_part HB21.out 0 [.slice qa qn qc, .bool vwP.rest, .slice ga 0 gc] rfl
            have HNW := Lib.hid (show Calls Tryz.prog 98 #[.string ⟨#[109, 97, 105, 110]⟩, .agg #[.int .i64 1, .slice p 1 cp, .bool true, .slice none 0 0, .bool false], .agg #[.slice ea en ec, .bool vwP.rest, .slice fa 0 fc, .int .i64 1, .bool y, .slice la ln lc, .bool lP.rest, .slice ra rn rc, .bool rP.rest], .agg #[.slice qa qn qc, .bool vwP.rest, .slice ga 0 gc]] wj (NwO [109, 97, 105, 110] ⟨⟨qa, qn, qc, vwP⟩, ga, gc, []⟩ wj) from narrowed_any [109, 97, 105, 110] ⟨#[109, 97, 105, 110]⟩ p cp ⟨⟨⟨ea, en, ec, vwP⟩, fa, fc, []⟩, ⟨y, ⟨la, ln, lc, lP⟩, ⟨ra, rn, rc, rP⟩⟩⟩ ⟨⟨qa, qn, qc, vwP⟩, ga, gc, []⟩ wj rfl nm_ma HOJ.out.i ⟨rfl, rfl⟩)
            go_upto_region 30 with (first
              | ((with_reducible refine atSlot 106 ?_); refine wpList_of_wp rfl (wp_load_mid (op := ⟨some 106, _, _, _, _, _⟩) 41 _ rfl g14 0 rfl [.int .i64 1, .slice p 1 cp, .bool true, .slice none 0 0, .bool false] _ hr106 Tryz.underlying41 rfl (by kernel_rfl) ?_); clear hr106)
              | ((with_reducible refine atSlot 107 ?_); refine wpList_of_wp rfl (wp_load_mid (op := ⟨some 107, _, _, _, _, _⟩) 95 _ rfl g20 0 rfl [.slice ea en ec, .bool vwP.rest, .slice fa 0 fc, .int .i64 1, .bool y, .slice la ln lc, .bool lP.rest, .slice ra rn rc, .bool rP.rest] _ hr107 Tryz.underlying95 rfl (by kernel_rfl) ?_); clear hr107)
              | ((with_reducible refine atSlot 108 ?_); refine wpList_of_wp rfl (wp_load_mid (op := ⟨some 108, _, _, _, _, _⟩) 55 _ rfl g21 0 rfl [.slice qa qn qc, .bool vwP.rest, .slice ga 0 gc] _ hr108 Tryz.underlying55 rfl (by kernel_rfl) ?_); clear hr108)
              | (go_at_call 98; (with_reducible refine HNW.out.mono ?_); rintro en wk ⟨⟨z, ⟨ua, un, uc, uP⟩, ⟨ta, tn, tc, tP⟩⟩, rfl, h1, h2, h3, hxk⟩; have H1 := Lib.hid (show uP = vwP from h1); have H2 := Lib.hid (show tP = ⟨[[109, 97, 105, 110]], true⟩ from h2); have H3 := Lib.hid h3; have HXK := Lib.hid hxk; have HPK := Lib.hid (put_new wk #[.slice none 0 0, .bool false, .slice none 0 0, .int .i64 0, .bool false, .slice none 0 0, .bool false, .slice none 0 0, .bool false] #[.slice qa qn qc, .bool vwP.rest, .slice ga 0 gc, .int .i64 1, .bool z, .slice ua un uc, .bool uP.rest, .slice ta tn tc, .bool tP.rest] 95); have hnk := heap_alloc_new wk (.cells #[.slice none 0 0, .bool false, .slice none 0 0, .int .i64 0, .bool false, .slice none 0 0, .bool false, .slice none 0 0, .bool false] 95); clear h1 h2 h3 hxk)
              | ((with_reducible refine atStore 24 ?_); refine wpList_of_wp rfl (wp_store_row (o := ⟨none, _, _, _, _, _⟩) _ _ _ rfl wk.heap.size #[.slice qa qn qc, .bool vwP.rest, .slice ga 0 gc, .int .i64 1, .bool z, .slice ua un uc, .bool uP.rest, .slice ta tn tc, .bool tP.rest] rfl rfl _ _ hnk (by kernel_rfl) rfl (by simp [Value.oneCell']) ?_); clear hnk)
              | fail)
            clear HNW c105
            generalize (wk.alloc (.cells #[.slice none 0 0, .bool false, .slice none 0 0, .int .i64 0, .bool false, .slice none 0 0, .bool false, .slice none 0 0, .bool false] 95)).setRow wk.heap.size #[.slice qa qn qc, .bool vwP.rest, .slice ga 0 gc, .int .i64 1, .bool z, .slice ua un uc, .bool uP.rest, .slice ta tn tc, .bool tP.rest] = wl at HPK ⊢
            obtain ⟨hxl, hbl⟩ := HPK.out
            have HXL := Lib.hid (HXK.out.trans' hxl)
            have HWL := Lib.hid (HWJ.out.trans' HXL.out)
            have HYL := Lib.hid (((HXH.out.trans' HXJ.out)).trans' HXL.out)
            have HPL := Lib.hid (show PcG wl w.heap.size [109, 97, 105, 110] ⟨⟨⟨qa, qn, qc, vwP⟩, ga, gc, []⟩, ⟨z, ⟨ua, un, uc, uP⟩, ⟨ta, tn, tc, tP⟩⟩⟩ from ⟨⟨rfl, rfl⟩, HOJ.out.ext HXL.out, H1.out, H2.out, (H3.out.ext hxl).base HWJ.out.size⟩)
            have hr120 := box_part hbl 0 [.slice qa qn qc, .bool vwP.rest, .slice ga 0 gc, .int .i64 1, .bool z, .slice ua un uc, .bool uP.rest, .slice ta tn tc, .bool tP.rest] rfl
            generalize wk.heap.size = g24 at hr120 ⊢
            clear hxl hbl HPK H3
            have HAN := Lib.hid (Ext.alloc' wl (.cells #[.slice qa qn qc, .bool vwP.rest, .slice ga 0 gc, .int .i64 1, .bool z, .slice ua un uc, .bool uP.rest, .slice ta tn tc, .bool tP.rest] 95))
            have HWN := Lib.hid (HWL.out.trans' HAN.out)
            go_wp2_with (first
              | ((with_reducible refine atSlot 120 ?_); refine wpList_of_wp rfl (wp_load_mid (op := ⟨some 120, _, _, _, _, _⟩) 95 _ rfl g24 0 rfl [.slice qa qn qc, .bool vwP.rest, .slice ga 0 gc, .int .i64 1, .bool z, .slice ua un uc, .bool uP.rest, .slice ta tn tc, .bool tP.rest] _ hr120 Tryz.underlying95 rfl (by kernel_rfl) ?_); clear hr120)
              | ((with_reducible refine atSlot 122 ?_); refine wpList_of_wp rfl (owp_app (o := ⟨some 122, _, _, _, _, _⟩) _ _ rfl Tryz.elPc rfl (own_nil _ w.heap.size 95 9) rfl (Row.new wl #[.slice qa qn qc, .bool vwP.rest, .slice ga 0 gc, .int .i64 1, .bool z, .slice ua un uc, .bool uP.rest, .slice ta tn tc, .bool tP.rest] 95 1 9 rfl (by decide)) (pc_one ⟨⟨⟨qa, qn, qc, vwP⟩, ga, gc, []⟩, ⟨z, ⟨ua, un, uc, uP⟩, ⟨ta, tn, tc, tP⟩⟩⟩) (by omega) (by unfold maxLen; omega) HWN.out.size ?_); intro a6 c6 wm ho6 hg6; have HO6 := Lib.hid ho6; have HXM := Lib.hid (HAN.out.trans' (below_app (Below.refl _ _) (own_nil _ _ 95 9) hg6 (Nat.le_refl _))); clear ho6 hg6)
              | fail)
            exact ⟨⟨1, by go_num, HYL.out.trans' HXM.out, .inr ⟨rfl, a6, c6, ⟨⟨⟨qa, qn, qc, vwP⟩, ga, gc, []⟩, ⟨z, ⟨ua, un, uc, uP⟩, ⟨ta, tn, tc, tP⟩⟩⟩, rfl, HO6.out, HPL.out.ext HXM.out⟩⟩, by simp [intOf]⟩
          · go_wp2
            exact ⟨⟨1, by go_num, (HXDE.out.trans' HE6.out).trans' HXG.out, .inr ⟨rfl, x12, c12, k12, rfl, ho12, hk12⟩⟩, by simp [intOf]⟩
    · go_wp2
      rw [HPO.out]
      exact ⟨x12, c12, k12, rfl, ho12, hk12, HXW.out⟩
set_option maxRecDepth 100000 in
set_option maxHeartbeats 8000000 in
theorem pieces1 (g m : Nat) (a : Option Addr) (c : Nat) (b : Option Addr) (cb : Nat) (p : Option Addr) (cp : Nat) (w : World) (h : Da w a c b cb p cp) (hf : Fo w g m a c) :
    Calls Tryz.prog 72 #[.pointer (some ⟨g, 0, none⟩), .int .i64 1] w (PcsO [100, 101, 118] w) := by
  have HPA := Lib.hid fun w' (hx : Ext w w') => parent1 g m a c b cb p cp w' (h.ext hx) (hf.ext hx)
  have HP0 := Lib.hid fun w' (hx : Ext w w') => pieces0 g m a c b cb p cp w' (h.ext hx) (hf.ext hx)
  have HRD := Lib.hid fun w' (hx : Ext w w') => (show Calls Tryz.prog 18 #[.agg #[.slice p 1 cp, .bool true], .slice none 0 0] w' (RedO vwP [] 100 w') from Reduce_any ⟨p, 1, cp, vwP⟩ none 0 [] 100 w' (h.pt.ext hx) (PtsI.nil _ _) vw_ok (fun q hq => nomatch hq) (by decide) (by decide))
  have HF := Lib.hid hf
  have HD := Lib.hid h
  obtain ⟨post, hpo⟩ : ∃ q : Ending → World → Prop, q = PcsO [100, 101, 118] w := ⟨_, rfl⟩
  rw [← hpo]
  have HPO := Lib.hid hpo
  clear hf h hpo
  go_enter Tryz.func72, Tryz.ntmps72
  go_upto_region 2 with (first
    | ((with_reducible refine atStore 6 ?_); refine Stop.of ?_)
    | fail)
  have hrv := Row.new w #[.string ⟨#[118, 105, 101, 119]⟩] 9 1 1 rfl (by decide)
  have hx1 := Ext.alloc' w (.cells #[.string ⟨#[118, 105, 101, 119]⟩] 9)
  have hs1 : (w.alloc (.cells #[.string ⟨#[118, 105, 101, 119]⟩] 9)).heap.size = w.heap.size + 1 := World.size_alloc _ _
  obtain ⟨gv, hgv⟩ : ∃ gv, gv = w.heap.size := ⟨_, rfl⟩
  rw [← hgv] at hrv hs1 ⊢
  generalize w.alloc (.cells #[.string ⟨#[118, 105, 101, 119]⟩] 9) = w1 at hrv hx1 hs1 ⊢
  rw [← hs1]
  have HRV := Lib.hid (show PtI w1 100 ⟨some ⟨gv, 0, none⟩, 1, 1, vwP⟩ from ⟨hrv, fun q hq => by
    obtain rfl : q = [118, 105, 101, 119] := by simpa [vwP] using hq
    decide⟩)
  have HX1 := Lib.hid hx1
  have HPN := Lib.hid (put_new w1 #[.slice none 0 0, .bool false] #[.slice (some ⟨gv, 0, none⟩) 1 1, .bool true] 39)
  have HNN := Lib.hid (heap_alloc_new w1 (.cells #[.slice none 0 0, .bool false] 39))
  clear hrv hx1 hs1 hgv
  refine Stop.out ?_
  go_upto_region 2 with (first
    | ((with_reducible refine atStore 6 ?_); refine wpList_of_wp rfl (wp_store_row (o := ⟨none, _, _, _, _, _⟩) _ _ _ rfl w1.heap.size #[.slice (some ⟨gv, 0, none⟩) 1 1, .bool true] rfl rfl _ _ HNN.out (by kernel_rfl) rfl (by simp [Value.oneCell']) ?_))
    | fail)
  generalize (w1.alloc (.cells #[.slice none 0 0, .bool false] 39)).setRow w1.heap.size #[.slice (some ⟨gv, 0, none⟩) 1 1, .bool true] = w2 at HPN ⊢
  obtain ⟨hx2, hb2⟩ := HPN.out
  have HX2 := Lib.hid (HX1.out.trans' hx2)
  have HRV2 := Lib.hid (HRV.out.ext hx2)
  have hr27 := box_part hb2 0 [.slice (some ⟨gv, 0, none⟩) 1 1, .bool true] rfl
  generalize w1.heap.size = g6 at hr27 ⊢
  clear hx2 hb2 HPN HNN
  go_upto_region 3 with (first
    | ((with_reducible refine atSlot 27 ?_); refine wpList_of_wp rfl (wp_load_mid (op := ⟨some 27, _, _, _, _, _⟩) 39 _ rfl g6 0 rfl [.slice (some ⟨gv, 0, none⟩) 1 1, .bool true] _ hr27 Tryz.underlying39 rfl (by kernel_rfl) ?_); clear hr27)
    | fail)
  have HAL := Lib.hid (Ext.alloc' w2 (.cells #[.slice (some ⟨gv, 0, none⟩) 1 1, .bool true, .slice none 0 0, .int .i64 1, .bool false, .slice none 0 0, .bool false, .slice none 0 0, .bool false] 95))
  have HPR := Lib.hid (Row.new w2 #[.slice (some ⟨gv, 0, none⟩) 1 1, .bool true, .slice none 0 0, .int .i64 1, .bool false, .slice none 0 0, .bool false, .slice none 0 0, .bool false] 95 1 9 rfl (by decide))
  generalize w2.alloc (.cells #[.slice (some ⟨gv, 0, none⟩) 1 1, .bool true, .slice none 0 0, .int .i64 1, .bool false, .slice none 0 0, .bool false, .slice none 0 0, .bool false] 95) = w3 at HAL HPR ⊢
  generalize w2.heap.size = gp at HPR ⊢
  have HX3 := Lib.hid (HX2.out.trans' HAL.out)
  have HPG := Lib.hid (show RgI w3 100 ⟨⟨some ⟨gv, 0, none⟩, 1, 1, vwP⟩, none, 0, []⟩ from ⟨HRV2.out.ext HAL.out, PtsI.nil _ _⟩)
  go_upto_region 9 with (first
    | (go_at_call 96; (with_reducible refine (HPA.out _ HX3.out).mono ?_); rintro en w5 ⟨rfl, hx5⟩; have HX5 := Lib.hid (HX3.out.trans' hx5); clear hx5)
    | (go_at_call 72; (with_reducible refine (HP0.out _ HX5.out).mono ?_); rintro en w4 ⟨x7, c7, k7, rfl, ho4, hk4, hx4⟩; have HX4 := Lib.hid (HX5.out.trans' hx4); have HR7 := Lib.hid (Row.of_own ho4); have HG7 := Lib.hid hk4.g.i; have HV7 := Lib.hid hk4.vw; clear ho4 hk4 hx4)
    | fail)
  obtain ⟨⟨⟨ea, en, ec, eP⟩, fa, fc, F⟩, ⟨y, ⟨la, ln, lc, lP⟩, ⟨ra, rn, rc, rP⟩⟩⟩ := k7
  obtain ⟨rfl, rfl⟩ : eP = vwP ∧ F = [] := ⟨HV7.out.b, HV7.out.hs⟩
  replace HR7 := Lib.hid (show Row w4 x7 1 c7 9 [.slice ea en ec, .bool vwP.rest, .slice fa 0 fc, .int .i64 1, .bool y, .slice la ln lc, .bool lP.rest, .slice ra rn rc, .bool rP.rest] from HR7.out)
  replace HG7 := Lib.hid (show RgI w4 100 ⟨⟨ea, en, ec, vwP⟩, fa, fc, []⟩ from HG7.out)
  clear HV7
  obtain ⟨d0, d1, -⟩ := box2 (HF.out.ext HX4.out).box
  have hrow := (HD.out.ext HX4.out).row
  have HPN := Lib.hid (put_new w4 #[.string ⟨#[]⟩, .string ⟨#[]⟩, .slice none 0 0] #[.string ⟨#[100, 101, 118]⟩, .string ⟨#[109, 97, 105, 110]⟩, .slice b 1 cb] 44)
  have HNN := heap_alloc_new w4 (.cells #[.string ⟨#[]⟩, .string ⟨#[]⟩, .slice none 0 0] 44)
  go_upto_region 10 with (first
    | ((with_reducible refine atSlot 52 ?_); refine wpList_of_wp rfl (owp_ix (o := ⟨some 52, _, _, _, _, _⟩) _ _ rfl Tryz.elSm rfl hrow 1 rfl rfl (by decide) ?_); intro b1 o1 hc2; have hd := flat_range (sm_three b cb) (show Ls[1]? = some (⟨#[100, 101, 118]⟩, ⟨#[109, 97, 105, 110]⟩) from rfl) hc2; clear hc2)
    | ((with_reducible refine atSlot 53 ?_); refine wpList_of_wp rfl (wp_load_mid (op := ⟨some 53, _, _, _, _, _⟩) 44 _ rfl b1 o1 rfl [.string ⟨#[100, 101, 118]⟩, .string ⟨#[109, 97, 105, 110]⟩, .slice b 1 cb] _ hd Tryz.underlying44 rfl (by kernel_rfl) ?_); clear hd)
    | ((with_reducible refine atStore 11 ?_); refine wpList_of_wp rfl (wp_store_row (o := ⟨none, _, _, _, _, _⟩) _ _ _ rfl w4.heap.size #[.string ⟨#[100, 101, 118]⟩, .string ⟨#[109, 97, 105, 110]⟩, .slice b 1 cb] rfl rfl _ _ HNN (by kernel_rfl) rfl (by simp [Value.oneCell']) ?_); clear HNN)
    | fail)
  clear d0 d1 hrow
  generalize (w4.alloc (.cells #[.string ⟨#[]⟩, .string ⟨#[]⟩, .slice none 0 0] 44)).setRow w4.heap.size #[.string ⟨#[100, 101, 118]⟩, .string ⟨#[109, 97, 105, 110]⟩, .slice b 1 cb] = w10 at HPN ⊢
  obtain ⟨hx10, hb10⟩ := HPN.out
  have HX10 := Lib.hid (HX4.out.trans' hx10)
  have HB11 := Lib.hid hb10
  have HR10 := Lib.hid (HR7.out.ext hx10)
  have HG10 := Lib.hid (HG7.out.ext hx10)
  have c55 := box_at hb10 2 _ rfl
  generalize w4.heap.size = g11 at HB11 c55 ⊢
  clear hx10 hb10 HPN
  go_wp2
  clear c55
  go_loopw [12, 57] (PcR w w10 [100, 101, 118]) (fun _ v _ => 1 - (intOf v).toNat)
  case atStart => exact ⟨0, rfl, Below.refl _ _, .inl ⟨rfl, rfl⟩⟩
  case round =>
    obtain ⟨j, rfl, hx, hj⟩ := hrel
    rename World => wd
    have HXD := Lib.hid (show Ext w10 wd from hx)
    have HXW := Lib.hid (HX10.out.trans' hx)
    clear hx
    rcases hj with ⟨rfl, rfl⟩ | ⟨rfl, x12, c12, k12, rfl, ho12, hk12⟩
    · have hrow := (HD.out.ext HXW.out).path
      have HPN := Lib.hid (put_new wd #[.int .i64 0, .slice none 0 0, .bool false, .slice none 0 0, .bool false] #[.int .i64 1, .slice p 1 cp, .bool true, .slice none 0 0, .bool false] 41)
      have HNN := heap_alloc_new wd (.cells #[.int .i64 0, .slice none 0 0, .bool false, .slice none 0 0, .bool false] 41)
      go_upto_region 14 with (first
        | ((with_reducible refine atSlot 60 ?_); refine wpList_of_wp rfl (owp_ix (o := ⟨some 60, _, _, _, _, _⟩) _ _ rfl Tryz.elSp rfl hrow 0 rfl rfl (by decide) ?_); intro b2 o2 hc2; have hd : wd.rangeAt b2 o2 (spC p cp) := range_of_cells hc2; clear hc2)
        | ((with_reducible refine atSlot 61 ?_); refine wpList_of_wp rfl (wp_load_mid (op := ⟨some 61, _, _, _, _, _⟩) 41 _ rfl b2 o2 rfl (spC p cp) _ hd Tryz.underlying41 rfl (by kernel_rfl) ?_); clear hd)
        | ((with_reducible refine atStore 14 ?_); refine wpList_of_wp rfl (wp_store_row (o := ⟨none, _, _, _, _, _⟩) _ _ _ rfl wd.heap.size #[.int .i64 1, .slice p 1 cp, .bool true, .slice none 0 0, .bool false] rfl rfl _ _ HNN (by kernel_rfl) rfl (by simp [Value.oneCell']) ?_); clear HNN)
        | fail)
      clear hrow
      generalize (wd.alloc (.cells #[.int .i64 0, .slice none 0 0, .bool false, .slice none 0 0, .bool false] 41)).setRow wd.heap.size #[.int .i64 1, .slice p 1 cp, .bool true, .slice none 0 0, .bool false] = we at HPN ⊢
      obtain ⟨hxe, hbe⟩ := HPN.out
      have HXE := Lib.hid (HXW.out.trans' hxe)
      have HXDE := Lib.hid (HXD.out.trans' hxe)
      have HB14 := Lib.hid hbe
      generalize wd.heap.size = g14 at HB14 ⊢
      clear hxe hbe HPN
      have c63 := box_at HB14.out 0 _ rfl
      have c66 := box_at (HXDE.out.heap' HB11.out) 2 _ rfl
      have hr69 := (HD.out.ext HXE.out).path
      go_upto_region 17 with (first
        | ((with_reducible refine atSlot 69 ?_); refine wpList_of_wp rfl (owp_sl_lo (o := ⟨some 69, _, _, _, _, _⟩) _ _ rfl Tryz.elSp rfl hr69 1 rfl rfl (by decide) ?_); intro a69 hr70; clear hr70 hr69)
        | fail)
      clear c63 c66
      go_loopw [15, 71] (IzRel we 0) (fun _ v _ => 0 - (intOf v).toNat)
      case atStart => exact ⟨0, rfl, rfl, Nat.le_refl _, Below.refl _ _⟩
      case round =>
        obtain ⟨t, rfl, rfl, ht, hx⟩ := hrel
        rename World => wf
        obtain rfl : t = 0 := by omega
        have HXF := Lib.hid (HXE.out.trans' hx)
        have HXEF := Lib.hid (show Ext we wf from hx)
        have hr82 := box_part (hx.heap' HB14.out) 1 [.slice p 1 cp, .bool true] rfl
        clear hx ht
        go_upto_region 22 with (first
          | ((with_reducible refine atSlot 82 ?_); refine wpList_of_wp rfl (wp_load_mid (op := ⟨some 82, _, _, _, _, _⟩) 39 _ rfl g14 1 rfl [.slice p 1 cp, .bool true] _ hr82 Tryz.underlying39 rfl (by kernel_rfl) ?_); clear hr82)
          | (go_at_call 18; (with_reducible refine (HRD.out _ HXF.out).mono ?_); rintro en w5 ⟨⟨⟨da, dn, dc, dP⟩, ha, hc, D⟩, rfl, h7, h8, h9, hx5⟩; have HDP := Lib.hid (show dP = vwP from h7); have HRE := Lib.hid h8; have HRG := Lib.hid h9; have HX5 := Lib.hid hx5; have HP5 := Lib.hid (put_new w5 #[.slice none 0 0, .bool false, .slice none 0 0] #[.slice da dn dc, .bool dP.rest, .slice ha D.length hc] 55); have hn5 := heap_alloc_new w5 (.cells #[.slice none 0 0, .bool false, .slice none 0 0] 55); clear h7 h8 h9 hx5)
          | ((with_reducible refine atStore 18 ?_); refine wpList_of_wp rfl (wp_store_row (o := ⟨none, _, _, _, _, _⟩) _ _ _ rfl w5.heap.size #[.slice da dn dc, .bool dP.rest, .slice ha D.length hc] rfl rfl _ _ hn5 (by kernel_rfl) rfl (by simp [Value.oneCell']) ?_); clear hn5)
          | fail)
        obtain rfl : D = [] := by
          have h := HRE.out.len
          rw [List.length_map] at h
          exact List.eq_nil_of_length_eq_zero (Nat.le_zero.1 h)
        obtain rfl := HDP.out
        generalize (w5.alloc (.cells #[.slice none 0 0, .bool false, .slice none 0 0] 55)).setRow w5.heap.size #[.slice da dn dc, .bool vwP.rest, .slice ha ([] : List Pt).length hc] = w6 at HP5 ⊢
        obtain ⟨hx6, hb6⟩ := HP5.out
        have HX6 := Lib.hid (HX5.out.trans' hx6)
        have HW6 := Lib.hid (HXF.out.trans' HX6.out)
        have HE6 := Lib.hid (HXEF.out.trans' HX6.out)
        have HG18 := Lib.hid (show RgI w6 100 ⟨⟨da, dn, dc, vwP⟩, ha, hc, []⟩ from (HRG.out.ext hx6).i)
        have HB18 := Lib.hid (show w6.heap[w5.heap.size]? = some (.cells #[.slice da dn dc, .bool vwP.rest, .slice ha 0 hc] 55) from hb6)
        generalize w5.heap.size = g18 at HB18 ⊢
        clear hx6 hb6 HP5 HRE HRG HDP
        go_wp2
        go_loopw [12, 87] (PcR w w6 [100, 101, 118]) (fun _ v _ => 1 - (intOf v).toNat)
        case atStart => exact ⟨0, rfl, Below.refl _ _, .inl ⟨rfl, rfl⟩⟩
        case round =>
          obtain ⟨t, rfl, hx, ht⟩ := hrel
          rename World => wg
          have HXG := Lib.hid (show Ext w6 wg from hx)
          have HWG := Lib.hid (HW6.out.trans' hx)
          clear hx
          rcases ht with ⟨rfl, rfl⟩ | ⟨rfl, x12, c12, k12, rfl, ho12, hk12⟩
          · have HEG := Lib.hid (HE6.out.trans' HXG.out)
            have HTG := Lib.hid (HXDE.out.trans' HEG.out)
            have hrow := HR10.out.ext HTG.out
            have HPN := Lib.hid (put_new wg #[.slice none 0 0, .bool false, .slice none 0 0, .int .i64 0, .bool false, .slice none 0 0, .bool false, .slice none 0 0, .bool false] #[.slice ea en ec, .bool vwP.rest, .slice fa 0 fc, .int .i64 1, .bool y, .slice la ln lc, .bool lP.rest, .slice ra rn rc, .bool rP.rest] 95)
            have HNN := heap_alloc_new wg (.cells #[.slice none 0 0, .bool false, .slice none 0 0, .int .i64 0, .bool false, .slice none 0 0, .bool false, .slice none 0 0, .bool false] 95)
            go_upto_region 25 with (first
              | ((with_reducible refine atSlot 89 ?_); refine wpList_of_wp rfl (owp_ix (o := ⟨some 89, _, _, _, _, _⟩) _ _ rfl Tryz.elPc rfl hrow 0 rfl rfl (by decide) ?_); intro b3 o3 hc2; have hd : wg.rangeAt b3 o3 [.slice ea en ec, .bool vwP.rest, .slice fa 0 fc, .int .i64 1, .bool y, .slice la ln lc, .bool lP.rest, .slice ra rn rc, .bool rP.rest] := range_of_cells hc2; clear hc2)
              | ((with_reducible refine atSlot 90 ?_); refine wpList_of_wp rfl (wp_load_mid (op := ⟨some 90, _, _, _, _, _⟩) 95 _ rfl b3 o3 rfl [.slice ea en ec, .bool vwP.rest, .slice fa 0 fc, .int .i64 1, .bool y, .slice la ln lc, .bool lP.rest, .slice ra rn rc, .bool rP.rest] _ hd Tryz.underlying95 rfl (by kernel_rfl) ?_); clear hd)
              | ((with_reducible refine atStore 20 ?_); refine wpList_of_wp rfl (wp_store_row (o := ⟨none, _, _, _, _, _⟩) _ _ _ rfl wg.heap.size #[.slice ea en ec, .bool vwP.rest, .slice fa 0 fc, .int .i64 1, .bool y, .slice la ln lc, .bool lP.rest, .slice ra rn rc, .bool rP.rest] rfl rfl _ _ HNN (by kernel_rfl) rfl (by simp [Value.oneCell']) ?_); clear HNN)
              | fail)
            clear hrow
            generalize (wg.alloc (.cells #[.slice none 0 0, .bool false, .slice none 0 0, .int .i64 0, .bool false, .slice none 0 0, .bool false, .slice none 0 0, .bool false] 95)).setRow wg.heap.size #[.slice ea en ec, .bool vwP.rest, .slice fa 0 fc, .int .i64 1, .bool y, .slice la ln lc, .bool lP.rest, .slice ra rn rc, .bool rP.rest] = wh at HPN ⊢
            obtain ⟨hxh, hbh⟩ := HPN.out
            have HXH := Lib.hid (HXG.out.trans' hxh)
            have HWH := Lib.hid (HWG.out.trans' hxh)
            have HTH := Lib.hid (HTG.out.trans' hxh)
            have HEH := Lib.hid (HEG.out.trans' hxh)
            have HB20 := Lib.hid hbh
            generalize wg.heap.size = g20 at HB20 ⊢
            clear hxh hbh HPN
            have hr92 := box_part (HXH.out.heap' HB18.out) 0 [.slice da dn dc, .bool vwP.rest, .slice ha 0 hc] rfl
            have hr94 := box_part HB20.out 0 [.slice ea en ec, .bool vwP.rest, .slice fa 0 fc] rfl
            have HRM := Lib.hid (show Calls Tryz.prog 97 #[.agg #[.slice da dn dc, .bool vwP.rest, .slice ha 0 hc], .agg #[.slice ea en ec, .bool vwP.rest, .slice fa 0 fc]] wh (RmtO wh) from RMeet_vw ⟨⟨da, dn, dc, vwP⟩, ha, hc, []⟩ ⟨⟨ea, en, ec, vwP⟩, fa, fc, []⟩ wh (HG18.out.ext HXH.out) (HG10.out.ext HTH.out) ⟨rfl, rfl⟩ ⟨rfl, rfl⟩)
            go_upto_region 26 with (first
              | ((with_reducible refine atSlot 92 ?_); refine wpList_of_wp rfl (wp_load_mid (op := ⟨some 92, _, _, _, _, _⟩) 55 _ rfl g18 0 rfl [.slice da dn dc, .bool vwP.rest, .slice ha 0 hc] _ hr92 Tryz.underlying55 rfl (by kernel_rfl) ?_); clear hr92)
              | ((with_reducible refine atSlot 94 ?_); refine wpList_of_wp rfl (wp_load_mid (op := ⟨some 94, _, _, _, _, _⟩) 55 _ rfl g20 0 rfl [.slice ea en ec, .bool vwP.rest, .slice fa 0 fc] _ hr94 Tryz.underlying55 rfl (by kernel_rfl) ?_); clear hr94)
              | (go_at_call 97; (with_reducible refine HRM.out.mono ?_); rintro en wi ⟨⟨⟨qa, qn, qc, qP⟩, ga, gc, G⟩, rfl, hv, ho, hxi⟩; obtain ⟨rfl, rfl⟩ : qP = vwP ∧ G = [] := ⟨hv.b, hv.hs⟩; have HOQ := Lib.hid ho; have HXI := Lib.hid hxi; have HPI := Lib.hid (put_new wi #[.slice none 0 0, .bool false, .slice none 0 0] #[.slice qa qn qc, .bool vwP.rest, .slice ga 0 gc] 55); have hni := heap_alloc_new wi (.cells #[.slice none 0 0, .bool false, .slice none 0 0] 55); clear hv ho hxi)
              | ((with_reducible refine atStore 21 ?_); refine wpList_of_wp rfl (wp_store_row (o := ⟨none, _, _, _, _, _⟩) _ _ _ rfl wi.heap.size #[.slice qa qn qc, .bool vwP.rest, .slice ga 0 gc] rfl rfl _ _ hni (by kernel_rfl) rfl (by simp [Value.oneCell']) ?_); clear hni)
              | fail)
            clear HRM
            generalize (wi.alloc (.cells #[.slice none 0 0, .bool false, .slice none 0 0] 55)).setRow wi.heap.size #[.slice qa qn qc, .bool vwP.rest, .slice ga 0 gc] = wj at HPI ⊢
            obtain ⟨hxj, hbj⟩ := HPI.out
            have HXJ := Lib.hid (HXI.out.trans' hxj)
            have HWJ := Lib.hid (HWH.out.trans' HXJ.out)
            have HOJ := Lib.hid (show RgO wj w.heap.size 100 ⟨⟨qa, qn, qc, vwP⟩, ga, gc, []⟩ from (HOQ.out.ext hxj).base HWH.out.size)
            have HB21 := Lib.hid hbj
            generalize wi.heap.size = g21 at HB21 ⊢
            clear hxj hbj HPI HOQ
            have c105 := box_at ((HTH.out.trans' HXJ.out).heap' HB11.out) 0 _ rfl
            have hr106 := box_part ((HEH.out.trans' HXJ.out).heap' HB14.out) 0 [.int .i64 1, .slice p 1 cp, .bool true, .slice none 0 0, .bool false] rfl
            have hr107 := box_part (HXJ.out.heap' HB20.out) 0 [.slice ea en ec, .bool vwP.rest, .slice fa 0 fc, .int .i64 1, .bool y, .slice la ln lc, .bool lP.rest, .slice ra rn rc, .bool rP.rest] rfl
            have hr108 := box_part HB21.out 0 [.slice qa qn qc, .bool vwP.rest, .slice ga 0 gc] rfl
            have HNW := Lib.hid (show Calls Tryz.prog 98 #[.string ⟨#[100, 101, 118]⟩, .agg #[.int .i64 1, .slice p 1 cp, .bool true, .slice none 0 0, .bool false], .agg #[.slice ea en ec, .bool vwP.rest, .slice fa 0 fc, .int .i64 1, .bool y, .slice la ln lc, .bool lP.rest, .slice ra rn rc, .bool rP.rest], .agg #[.slice qa qn qc, .bool vwP.rest, .slice ga 0 gc]] wj (NwO [100, 101, 118] ⟨⟨qa, qn, qc, vwP⟩, ga, gc, []⟩ wj) from narrowed_any [100, 101, 118] ⟨#[100, 101, 118]⟩ p cp ⟨⟨⟨ea, en, ec, vwP⟩, fa, fc, []⟩, ⟨y, ⟨la, ln, lc, lP⟩, ⟨ra, rn, rc, rP⟩⟩⟩ ⟨⟨qa, qn, qc, vwP⟩, ga, gc, []⟩ wj rfl nm_de HOJ.out.i ⟨rfl, rfl⟩)
            go_upto_region 30 with (first
              | ((with_reducible refine atSlot 106 ?_); refine wpList_of_wp rfl (wp_load_mid (op := ⟨some 106, _, _, _, _, _⟩) 41 _ rfl g14 0 rfl [.int .i64 1, .slice p 1 cp, .bool true, .slice none 0 0, .bool false] _ hr106 Tryz.underlying41 rfl (by kernel_rfl) ?_); clear hr106)
              | ((with_reducible refine atSlot 107 ?_); refine wpList_of_wp rfl (wp_load_mid (op := ⟨some 107, _, _, _, _, _⟩) 95 _ rfl g20 0 rfl [.slice ea en ec, .bool vwP.rest, .slice fa 0 fc, .int .i64 1, .bool y, .slice la ln lc, .bool lP.rest, .slice ra rn rc, .bool rP.rest] _ hr107 Tryz.underlying95 rfl (by kernel_rfl) ?_); clear hr107)
              | ((with_reducible refine atSlot 108 ?_); refine wpList_of_wp rfl (wp_load_mid (op := ⟨some 108, _, _, _, _, _⟩) 55 _ rfl g21 0 rfl [.slice qa qn qc, .bool vwP.rest, .slice ga 0 gc] _ hr108 Tryz.underlying55 rfl (by kernel_rfl) ?_); clear hr108)
              | (go_at_call 98; (with_reducible refine HNW.out.mono ?_); rintro en wk ⟨⟨z, ⟨ua, un, uc, uP⟩, ⟨ta, tn, tc, tP⟩⟩, rfl, h1, h2, h3, hxk⟩; have H1 := Lib.hid (show uP = vwP from h1); have H2 := Lib.hid (show tP = ⟨[[100, 101, 118]], true⟩ from h2); have H3 := Lib.hid h3; have HXK := Lib.hid hxk; have HPK := Lib.hid (put_new wk #[.slice none 0 0, .bool false, .slice none 0 0, .int .i64 0, .bool false, .slice none 0 0, .bool false, .slice none 0 0, .bool false] #[.slice qa qn qc, .bool vwP.rest, .slice ga 0 gc, .int .i64 1, .bool z, .slice ua un uc, .bool uP.rest, .slice ta tn tc, .bool tP.rest] 95); have hnk := heap_alloc_new wk (.cells #[.slice none 0 0, .bool false, .slice none 0 0, .int .i64 0, .bool false, .slice none 0 0, .bool false, .slice none 0 0, .bool false] 95); clear h1 h2 h3 hxk)
              | ((with_reducible refine atStore 24 ?_); refine wpList_of_wp rfl (wp_store_row (o := ⟨none, _, _, _, _, _⟩) _ _ _ rfl wk.heap.size #[.slice qa qn qc, .bool vwP.rest, .slice ga 0 gc, .int .i64 1, .bool z, .slice ua un uc, .bool uP.rest, .slice ta tn tc, .bool tP.rest] rfl rfl _ _ hnk (by kernel_rfl) rfl (by simp [Value.oneCell']) ?_); clear hnk)
              | fail)
            clear HNW c105
            generalize (wk.alloc (.cells #[.slice none 0 0, .bool false, .slice none 0 0, .int .i64 0, .bool false, .slice none 0 0, .bool false, .slice none 0 0, .bool false] 95)).setRow wk.heap.size #[.slice qa qn qc, .bool vwP.rest, .slice ga 0 gc, .int .i64 1, .bool z, .slice ua un uc, .bool uP.rest, .slice ta tn tc, .bool tP.rest] = wl at HPK ⊢
            obtain ⟨hxl, hbl⟩ := HPK.out
            have HXL := Lib.hid (HXK.out.trans' hxl)
            have HWL := Lib.hid (HWJ.out.trans' HXL.out)
            have HYL := Lib.hid (((HXH.out.trans' HXJ.out)).trans' HXL.out)
            have HPL := Lib.hid (show PcG wl w.heap.size [100, 101, 118] ⟨⟨⟨qa, qn, qc, vwP⟩, ga, gc, []⟩, ⟨z, ⟨ua, un, uc, uP⟩, ⟨ta, tn, tc, tP⟩⟩⟩ from ⟨⟨rfl, rfl⟩, HOJ.out.ext HXL.out, H1.out, H2.out, (H3.out.ext hxl).base HWJ.out.size⟩)
            have hr120 := box_part hbl 0 [.slice qa qn qc, .bool vwP.rest, .slice ga 0 gc, .int .i64 1, .bool z, .slice ua un uc, .bool uP.rest, .slice ta tn tc, .bool tP.rest] rfl
            generalize wk.heap.size = g24 at hr120 ⊢
            clear hxl hbl HPK H3
            have HAN := Lib.hid (Ext.alloc' wl (.cells #[.slice qa qn qc, .bool vwP.rest, .slice ga 0 gc, .int .i64 1, .bool z, .slice ua un uc, .bool uP.rest, .slice ta tn tc, .bool tP.rest] 95))
            have HWN := Lib.hid (HWL.out.trans' HAN.out)
            go_wp2_with (first
              | ((with_reducible refine atSlot 120 ?_); refine wpList_of_wp rfl (wp_load_mid (op := ⟨some 120, _, _, _, _, _⟩) 95 _ rfl g24 0 rfl [.slice qa qn qc, .bool vwP.rest, .slice ga 0 gc, .int .i64 1, .bool z, .slice ua un uc, .bool uP.rest, .slice ta tn tc, .bool tP.rest] _ hr120 Tryz.underlying95 rfl (by kernel_rfl) ?_); clear hr120)
              | ((with_reducible refine atSlot 122 ?_); refine wpList_of_wp rfl (owp_app (o := ⟨some 122, _, _, _, _, _⟩) _ _ rfl Tryz.elPc rfl (own_nil _ w.heap.size 95 9) rfl (Row.new wl #[.slice qa qn qc, .bool vwP.rest, .slice ga 0 gc, .int .i64 1, .bool z, .slice ua un uc, .bool uP.rest, .slice ta tn tc, .bool tP.rest] 95 1 9 rfl (by decide)) (pc_one ⟨⟨⟨qa, qn, qc, vwP⟩, ga, gc, []⟩, ⟨z, ⟨ua, un, uc, uP⟩, ⟨ta, tn, tc, tP⟩⟩⟩) (by omega) (by unfold maxLen; omega) HWN.out.size ?_); intro a6 c6 wm ho6 hg6; have HO6 := Lib.hid ho6; have HXM := Lib.hid (HAN.out.trans' (below_app (Below.refl _ _) (own_nil _ _ 95 9) hg6 (Nat.le_refl _))); clear ho6 hg6)
              | fail)
            exact ⟨⟨1, by go_num, HYL.out.trans' HXM.out, .inr ⟨rfl, a6, c6, ⟨⟨⟨qa, qn, qc, vwP⟩, ga, gc, []⟩, ⟨z, ⟨ua, un, uc, uP⟩, ⟨ta, tn, tc, tP⟩⟩⟩, rfl, HO6.out, HPL.out.ext HXM.out⟩⟩, by simp [intOf]⟩
          · go_wp2
            exact ⟨⟨1, by go_num, (HXDE.out.trans' HE6.out).trans' HXG.out, .inr ⟨rfl, x12, c12, k12, rfl, ho12, hk12⟩⟩, by simp [intOf]⟩
    · go_wp2
      rw [HPO.out]
      exact ⟨x12, c12, k12, rfl, ho12, hk12, HXW.out⟩
end Go.Proofs.YtejljmikammcdaaGreatDoor
