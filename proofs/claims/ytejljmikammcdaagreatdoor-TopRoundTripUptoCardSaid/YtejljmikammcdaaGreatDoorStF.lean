/-
  Layer region, at regions without holes: checkBoth, Meet.
-/
import Derived.Test.YtejljmikammcdaaGreatDoorJoined12
namespace Go.Proofs.YtejljmikammcdaaGreatDoor
open Go.RowKit Go.WideMaps

theorem vw_ok : OkP vwP := okP_of.1 (by decide)
theorem vw_meet : meetP vwP vwP = some vwP := by rfl
theorem vw_void : ¬ VoidT vwP [] := fun h => by
  obtain ⟨q, hq, -⟩ := h (firstLen vwP) (Nat.le_refl _) (by decide)
  cases hq
/-- A region of all client paths. -/
structure Vw (k : Rg) : Prop where
  b : k.b.P = vwP
  hs : k.hs = []
theorem Vw.okG {k : Rg} (h : Vw k) : OkG k.b.P k.hs := by
  rw [h.b, h.hs]
  exact ⟨vw_ok, (fun q hq => nomatch hq), by decide⟩
theorem GCheck_vw (k : Rg) (w : World) (hk : RgI w 100 k) (h : Vw k) : Calls Tryz.prog 62 #[k.v] w (RetE (.int .i64 0) w) :=
  (GCheck_any k 100 w hk (by decide)).mono fun en w' h' => by
    obtain ⟨e, rfl, h1, h2⟩ := h'
    obtain rfl := h1.2 h.okG
    exact ⟨rfl, h2⟩
set_option maxRecDepth 100000 in
set_option maxHeartbeats 4000000 in
theorem checkBoth_vw (x y : Rg) (w : World) (hx : RgI w 100 x) (hy : RgI w 100 y) (vx : Vw x) (vy : Vw y) : Calls Tryz.prog 130 #[x.v, y.v] w (RetE (.int .i64 0) w) := by
  have HC1 := Lib.hid fun w' (h : Ext w w') => GCheck_vw x w' (hx.ext h) vx
  have HC2 := Lib.hid fun w' (h : Ext w w') => GCheck_vw y w' (hy.ext h) vy
  clear hx hy vx vy
  obtain ⟨⟨xa, xn, xc, xP⟩, xh, xk, X⟩ := x
  obtain ⟨⟨ya, yn, yc, yP⟩, yh, yk, Y⟩ := y
  obtain ⟨post, hpo⟩ : ∃ q : Ending → World → Prop, q = RetE (.int .i64 0) w := ⟨_, rfl⟩
  rw [← hpo]
  have HPO := Lib.hid hpo
  have HX := Lib.hid (two_boxes w #[.slice xa xn xc, .bool xP.rest, .slice xh X.length xk] #[.slice ya yn yc, .bool yP.rest, .slice yh Y.length yk] 55 55)
  clear hpo
  go_enter Tryz.func130, Tryz.ntmps130
  go_upto_region 1 with fail
  generalize (w.alloc (.cells #[.slice xa xn xc, .bool xP.rest, .slice xh X.length xk] 55)).alloc (.cells #[.slice ya yn yc, .bool yP.rest, .slice yh Y.length yk] 55) = w2 at HX ⊢
  obtain ⟨hx2, hh1, hh2⟩ := HX.out
  have HX2 := Lib.hid hx2
  have HB2 := Lib.hid hh2
  have hr6 := (box3 hh1).2.2
  generalize w.heap.size = b at HB2 hr6 ⊢
  clear hx2 hh1 hh2 HX
  go_upto_region 4 with (first
    | ((with_reducible refine atSlot 6 ?_); refine wpList_of_wp rfl (wp_load_mid (op := ⟨some 6, _, _, _, _, _⟩) 55 _ rfl b 0 rfl [.slice xa xn xc, .bool xP.rest, .slice xh X.length xk] _ hr6 Tryz.underlying55 rfl (by kernel_rfl) ?_); clear hr6)
    | (go_at_call 62; (with_reducible refine (HC1.out _ HX2.out).mono ?_); rintro en w3 ⟨rfl, hx3⟩; have HX3 := Lib.hid (HX2.out.trans' hx3); have HB3 := Lib.hid (hx3.heap' HB2.out); clear hx3)
    | fail)
  have hr11 := (box3 HB3.out).2.2
  go_wp2_with (first
    | ((with_reducible refine atSlot 11 ?_); refine wpList_of_wp rfl (wp_load_mid (op := ⟨some 11, _, _, _, _, _⟩) 55 _ rfl (b + 1) 0 rfl [.slice ya yn yc, .bool yP.rest, .slice yh Y.length yk] _ hr11 Tryz.underlying55 rfl (by kernel_rfl) ?_); clear hr11)
    | (go_at_call 62; (with_reducible refine (HC2.out _ HX3.out).mono ?_); rintro en w4 ⟨rfl, hx4⟩; have HX4 := Lib.hid (HX3.out.trans' hx4); clear hx4)
    | fail)
  rw [HPO.out]
  exact ⟨rfl, HX4.out⟩
/-- Meet: a region of all client paths. -/
def RmtO (w : World) (en : Ending) (w' : World) : Prop := ∃ k : Rg, en = .returned (.tuple #[k.v, .bool true, .int .i64 0]) ∧ Vw k ∧ RgO w' w.heap.size 100 k ∧ Ext w w'
/-- Behind the region of Meet that reduces. -/
def RmcO (w0 w : World) (v : Value) (w' : World) : Prop := ∃ (k : Rg) (g : Nat), v = .pointer (some ⟨g, 0, none⟩) ∧ Vw k ∧ RgO w' w0.heap.size 100 k ∧ w'.heap[g]? = some (.cells #[.slice k.b.a k.b.n k.b.c, .bool k.b.P.rest, .slice k.a k.hs.length k.c] 55) ∧ Ext w w'
set_option maxRecDepth 100000 in
set_option maxHeartbeats 8000000 in
theorem RMeet_vw (x y : Rg) (w : World) (hx : RgI w 100 x) (hy : RgI w 100 y) (vx : Vw x) (vy : Vw y) : Calls Tryz.prog 97 #[x.v, y.v] w (RmtO w) := by
  have HCB := Lib.hid fun w' (h : Ext w w') => checkBoth_vw x y w' (hx.ext h) (hy.ext h) vx vy
  have HME := Lib.hid fun w' (h : Ext w w') => Meet_any x.b y.b 100 w' (hx.b.ext h) (hy.b.ext h) (by decide)
  have HRX := Lib.hid fun w' (h : Ext w w') => hx.hs.row.ext h
  have HRY := Lib.hid fun w' (h : Ext w w') => hy.hs.row.ext h
  clear hx hy
  obtain ⟨⟨xa, xn, xc, xP⟩, xh, xk, X⟩ := x
  obtain ⟨⟨ya, yn, yc, yP⟩, yh, yk, Y⟩ := y
  obtain ⟨rfl, rfl⟩ : xP = vwP ∧ X = [] := ⟨vx.b, vx.hs⟩
  obtain ⟨rfl, rfl⟩ : yP = vwP ∧ Y = [] := ⟨vy.b, vy.hs⟩
  clear vx vy
  have HCC := Lib.hid fun (p : Option Addr) w' (h : Ext w w') (hr : Row w' p 2 2 1 [.slice xh 0 xk, .slice yh 0 yk]) => (show Calls Tryz.prog 89 #[.slice p 2 2] w' (CatO [⟨xh, xk, []⟩, ⟨yh, yk, []⟩] w') from Concat_any [⟨xh, xk, []⟩, ⟨yh, yk, []⟩] p 2 w' hr (by
    intro z hz
    simp at hz
    rcases hz with rfl | rfl
    · exact HRX.out w' h
    · exact HRY.out w' h) (by simp [catL]) (by simp))
  have HRD := Lib.hid fun (m : Pt) (a : Option Addr) (c : Nat) w' (hm : PtI w' 100 m) (ho : m.P = vwP) (hr : Row w' a 0 c 2 []) => (show Calls Tryz.prog 18 #[m.v, .slice a 0 c] w' (RedO m.P [] 100 w') from Reduce_any m a c [] 100 w' hm ⟨hr, fun q hq => nomatch hq⟩ (by rw [ho]; exact vw_ok) (fun q hq => nomatch hq) (by decide) (by decide))
  have HVO := Lib.hid fun (k : Rg) w' (hk : RgI w' 100 k) (h : Vw k) => (show Calls Tryz.prog 19 #[k.b.v, .slice k.a k.hs.length k.c] w' (RetE (.bool false) w') from
    (Void_any k.b k.a k.c k.hs 100 w' hk.b hk.hs (by decide) (by rw [h.b]; exact vw_ok) (fun q hq => by rw [h.hs] at hq; cases hq)).mono fun en w'' h' => by
      obtain ⟨q, rfl, h1, h2⟩ := h'
      rw [h.b, h.hs] at h1
      cases q with
      | true => exact absurd (h1.1 (by first | rfl | trivial)) vw_void
      | false => exact ⟨rfl, h2⟩)
  replace HCB := Lib.hid (show ∀ w', Ext w w' → Calls Tryz.prog 130 #[.agg #[.slice xa xn xc, .bool true, .slice xh 0 xk], .agg #[.slice ya yn yc, .bool true, .slice yh 0 yk]] w' (RetE (.int .i64 0) w') from HCB.out)
  replace HME := Lib.hid (show ∀ w', Ext w w' → Calls Tryz.prog 43 #[.agg #[.slice xa xn xc, .bool true], .agg #[.slice ya yn yc, .bool true]] w' (fun en w'' => ∃ r : Pt, en = .returned (.tuple #[r.v, .bool true]) ∧ r.P = vwP ∧ PtO w'' w'.heap.size 100 r ∧ Ext w' w'') from fun w' h => (HME.out w' h).mono fun en w'' h' => by
    obtain ⟨r, rfl, h1, h2, h3⟩ := h'
    exact ⟨r, by rw [show meetP vwP vwP = some vwP from vw_meet]; rfl, h1 _ vw_meet, h2, h3⟩)
  obtain ⟨post, hpo⟩ : ∃ q : Ending → World → Prop, q = RmtO w := ⟨_, rfl⟩
  rw [← hpo]
  have HPO := Lib.hid hpo
  have HX := Lib.hid (three_boxes w #[.slice xa xn xc, .bool true, .slice xh 0 xk] #[.slice ya yn yc, .bool true, .slice yh 0 yk] #[.slice none 0 0, .bool false, .slice none 0 0] 55 55 55)
  clear hpo
  show Calls Tryz.prog 97 #[.agg #[.slice xa xn xc, .bool true, .slice xh 0 xk], .agg #[.slice ya yn yc, .bool true, .slice yh 0 yk]] w post
  go_enter Tryz.func97, Tryz.ntmps97
  go_upto_region 1 with fail
  generalize ((w.alloc (.cells #[.slice xa xn xc, .bool true, .slice xh 0 xk] 55)).alloc (.cells #[.slice ya yn yc, .bool true, .slice yh 0 yk] 55)).alloc (.cells #[.slice none 0 0, .bool false, .slice none 0 0] 55) = w2 at HX ⊢
  obtain ⟨hx2, hh1, hh2, hh3⟩ := HX.out
  have HX2 := Lib.hid hx2
  have HB1 := Lib.hid hh1
  have HB2 := Lib.hid hh2
  have HB3 := Lib.hid hh3
  obtain ⟨b, hb⟩ : ∃ b, b = w.heap.size := ⟨_, rfl⟩
  rw [← hb] at HB1 HB2 HB3 ⊢
  have HBB := Lib.hid hb
  have hr11 := (box3 HB1.out).2.2
  have hr12 := (box3 HB2.out).2.2
  clear hx2 hh1 hh2 hh3 HX hb
  go_upto_region 4 with (first
    | ((with_reducible refine atSlot 11 ?_); refine wpList_of_wp rfl (wp_load_mid (op := ⟨some 11, _, _, _, _, _⟩) 55 _ rfl b 0 rfl [.slice xa xn xc, .bool true, .slice xh 0 xk] _ hr11 Tryz.underlying55 rfl (by kernel_rfl) ?_); clear hr11)
    | ((with_reducible refine atSlot 12 ?_); refine wpList_of_wp rfl (wp_load_mid (op := ⟨some 12, _, _, _, _, _⟩) 55 _ rfl (b + 1) 0 rfl [.slice ya yn yc, .bool true, .slice yh 0 yk] _ hr12 Tryz.underlying55 rfl (by kernel_rfl) ?_); clear hr12)
    | (go_at_call 130; (with_reducible refine (HCB.out _ HX2.out).mono ?_); rintro en w3 ⟨rfl, hx3⟩; have HX3 := Lib.hid hx3; clear hx3)
    | fail)
  have HXW3 := Lib.hid (HX2.out.trans' HX3.out)
  have hr20 := (box3 (HX3.out.heap' HB1.out)).1
  have hr22 := (box3 (HX3.out.heap' HB2.out)).1
  go_upto_region 7 with (first
    | ((with_reducible refine atSlot 20 ?_); refine wpList_of_wp rfl (wp_load_mid (op := ⟨some 20, _, _, _, _, _⟩) 39 _ rfl b 0 rfl [.slice xa xn xc, .bool true] _ hr20 Tryz.underlying39 rfl (by kernel_rfl) ?_); clear hr20)
    | ((with_reducible refine atSlot 22 ?_); refine wpList_of_wp rfl (wp_load_mid (op := ⟨some 22, _, _, _, _, _⟩) 39 _ rfl (b + 1) 0 rfl [.slice ya yn yc, .bool true] _ hr22 Tryz.underlying39 rfl (by kernel_rfl) ?_); clear hr22)
    | (go_at_call 43; (with_reducible refine (HME.out _ HXW3.out).mono ?_); rintro en w5 ⟨⟨ma, mn, mc, mP⟩, rfl, h2, h3, hx5⟩; have HMV := Lib.hid (show mP = vwP from h2); have HMP := Lib.hid h3; have HX5 := Lib.hid (HX3.out.trans' hx5); have HP5 := Lib.hid (put_new w5 #[.slice none 0 0, .bool false] #[.slice ma mn mc, .bool mP.rest] 39); have hn5 := heap_alloc_new w5 (.cells #[.slice none 0 0, .bool false] 39); clear h2 h3 hx5)
    | ((with_reducible refine atStore 8 ?_); refine wpList_of_wp rfl (wp_store_row (o := ⟨none, _, _, _, _, _⟩) _ _ _ rfl w5.heap.size #[.slice ma mn mc, .bool mP.rest] rfl rfl _ _ hn5 (by kernel_rfl) rfl (by simp [Value.oneCell']) ?_); clear hn5)
    | fail)
  generalize (w5.alloc (.cells #[.slice none 0 0, .bool false] 39)).setRow w5.heap.size #[.slice ma mn mc, .bool mP.rest] = w6 at HP5 ⊢
  obtain ⟨hx6, hb6⟩ := HP5.out
  have HX6 := Lib.hid (HX5.out.trans' hx6)
  have HF6 := Lib.hid hb6
  have HMQ := Lib.hid (HMP.out.ext hx6)
  generalize w5.heap.size = g5 at HF6 ⊢
  clear hx6 hb6 HP5 HMP HX5
  go_simp
  go_cut [10] from 29 to 36 (fun s10 w' => RmcO w w6 s10 w')
  case first =>
    have E5 := Ext.drew' w6
    have HR5 := Lib.hid (show Ext w6 w6.drew from E5)
    have HQ1 := Lib.hid fun w' (h : Ext w6 w') => (HX6.out.trans' h).heap' HB1.out
    have HQ2 := Lib.hid fun w' (h : Ext w6 w') => (HX6.out.trans' h).heap' HB2.out
    have HQ6 := Lib.hid fun w' (h : Ext w6 w') => h.heap' HF6.out
    have HW6 := Lib.hid (HX2.out.trans' HX6.out)
    clear E5
    refine wp_region_z (fun w' => Ext w6 w') HR5.out [] (.qs [0, 1, 2, 3, 4] (.alt 5 (.alt 6 (.alt 7 (.l 8 (.l 9 .nil)) (.alt 8 (.l 7 (.l 9 .nil)) .stop)) (.alt 8 (.l 6 (.l 7 (.l 9 .nil))) .stop)) (.alt 8 (.l 5 (.l 6 (.l 7 (.l 9 .nil)))) .stop))) (by kernel_rfl) (by kernel_rfl) ?_
    refine wpZ_q rfl rfl (.agg #[.slice ma mn mc, .bool mP.rest]) (fun w' hx' => by obtain ⟨d0, d1, -⟩ := box2 (HQ6.out w' hx'); go_simp; try rfl) ?_
    go_simp
    ((refine wpZ_q rfl rfl _ (fun w' hx' => by go_simp; try rfl) ?_; go_simp))
    refine wpZ_q rfl rfl (.slice xh 0 xk) (fun w' hx' => by have hb' := (box3 (HQ1.out w' hx')).2.1; go_simp; try rfl) ?_
    go_simp
    ((refine wpZ_q rfl rfl _ (fun w' hx' => by go_simp; try rfl) ?_; go_simp))
    refine wpZ_q rfl rfl (.slice yh 0 yk) (fun w' hx' => by have hb' := (box3 (HQ2.out w' hx')).2.1; go_simp; try rfl) ?_
    go_simp
    generalize w6.drew = wz at HR5 ⊢
    refine wpZ_alt rfl rfl ?_ (wpZ_alt rfl rfl ?_ wpZ_stop)
    · go_simp
      have hal := Ext.alloc' wz (.cells #[.slice xh 0 xk, .slice yh 0 yk] 51)
      have HRN := Lib.hid (Row.new wz #[.slice xh 0 xk, .slice yh 0 yk] 51 2 1 rfl (by decide))
      generalize wz.alloc (.cells #[.slice xh 0 xk, .slice yh 0 yk] 51) = wa1 at hal HRN ⊢
      generalize wz.heap.size = gr at HRN ⊢
      have HY1 := Lib.hid ((HR5.out).trans' hal)
      refine ⟨HY1.out, ?_⟩
      clear hal
      refine wpZ_alt rfl rfl ?_ (wpZ_alt rfl rfl ?_ wpZ_stop)
      · go_simp
        refine (HCC.out _ _ (HW6.out.trans' HY1.out) (HRN.out)).mono ?_
        rintro en wa2 ⟨ka, kc, rfl, hko, hal⟩
        have HKO := Lib.hid (Row.of_own hko)
        clear hko
        have HY2 := Lib.hid ((HY1.out).trans' hal)
        refine ⟨HY2.out, ?_⟩
        clear hal
        refine wpZ_alt rfl rfl ?_ (wpZ_alt rfl rfl ?_ wpZ_stop)
        · go_simp
          refine (HRD.out ⟨ma, mn, mc, mP⟩ _ _ _ (HMQ.out.ext HY2.out).i HMV.out (HKO.out)).mono ?_
          rintro en wa3 ⟨⟨⟨da, dn, dc, dP⟩, ha, hc, D⟩, rfl, hk1, hk2, hk3, hal⟩
          obtain rfl : D = [] := by
            have := hk2.len
            rw [List.length_map] at this
            exact List.eq_nil_of_length_eq_zero (Nat.le_zero.1 this)
          have HVW := Lib.hid (show Vw ⟨⟨da, dn, dc, dP⟩, ha, hc, []⟩ from ⟨hk1.trans HMV.out, rfl⟩)
          have HRO := Lib.hid (show RgO wa3 w.heap.size 100 ⟨⟨da, dn, dc, dP⟩, ha, hc, []⟩ from hk3.base (HW6.out.trans' HY2.out).size)
          clear hk1 hk2 hk3
          have HY3 := Lib.hid ((HY2.out).trans' hal)
          refine ⟨HY3.out, ?_⟩
          clear hal
          refine wpZ_l rfl rfl ?_
          go_simp
          have hal := Ext.alloc' wa3 (.cells #[.slice none 0 0, .bool false, .slice none 0 0] 55)
          have hnw := heap_alloc_new wa3 (.cells #[.slice none 0 0, .bool false, .slice none 0 0] 55)
          generalize wa3.alloc (.cells #[.slice none 0 0, .bool false, .slice none 0 0] 55) = wa4 at hal hnw ⊢
          have HGB := Lib.hid (show w6.heap.size ≤ wa3.heap.size from (HY3.out).size)
          generalize wa3.heap.size = gb at hnw HGB ⊢
          have HV := Lib.hid hnw
          clear hnw
          have HY4 := Lib.hid ((HY3.out).trans' hal)
          have HRO' := Lib.hid ((HRO.out).ext hal)
          refine ⟨HY4.out, ?_⟩
          clear hal
          go_simp
          refine wpZ_l rfl rfl (wp_store_row _ _ _ rfl gb #[.slice da dn dc, .bool dP.rest, .slice ha 0 hc] rfl rfl _ _ (HV.out) (by kernel_rfl) rfl (by simp [Value.oneCell']) ?_)
          have HZ1 := Lib.hid (RgO.row (cs' := #[.slice da dn dc, .bool dP.rest, .slice ha 0 hc]) (HRO'.out) (HV.out))
          have HZ2 := Lib.hid (show (wa4.setRow gb #[.slice da dn dc, .bool dP.rest, .slice ha 0 hc]).heap[gb]? = some (.cells #[.slice da dn dc, .bool dP.rest, .slice ha 0 hc] 55) from setRow_heap _ _ _ _ _ _ (HV.out))
          have HZ3 := Lib.hid (Ext.setRow (cs := #[.slice da dn dc, .bool dP.rest, .slice ha 0 hc]) (HY4.out) HGB.out)
          refine ⟨fun _ => HZ3.out, ?_⟩
          go_simp
          refine wpZ_nil ?_
          go_wp2
          go_meet
          exact ⟨⟨⟨da, dn, dc, dP⟩, ha, hc, []⟩, gb, rfl, HVW.out, HZ1.out, HZ2.out, HZ3.out⟩
        · go_simp
          have hal := Ext.alloc' wa2 (.cells #[.slice none 0 0, .bool false, .slice none 0 0] 55)
          have hnw := heap_alloc_new wa2 (.cells #[.slice none 0 0, .bool false, .slice none 0 0] 55)
          generalize wa2.alloc (.cells #[.slice none 0 0, .bool false, .slice none 0 0] 55) = wa3 at hal hnw ⊢
          have HGB := Lib.hid (show w6.heap.size ≤ wa2.heap.size from (HY2.out).size)
          generalize wa2.heap.size = gb at hnw HGB ⊢
          have HV := Lib.hid hnw
          clear hnw
          have HY3 := Lib.hid ((HY2.out).trans' hal)
          have HKO' := Lib.hid (Row.ext (HKO.out) hal)
          refine ⟨HY3.out, ?_⟩
          clear hal
          refine wpZ_l rfl rfl ?_
          go_simp
          refine (HRD.out ⟨ma, mn, mc, mP⟩ _ _ _ (HMQ.out.ext HY3.out).i HMV.out (HKO'.out)).mono ?_
          rintro en wa4 ⟨⟨⟨da, dn, dc, dP⟩, ha, hc, D⟩, rfl, hk1, hk2, hk3, hal⟩
          obtain rfl : D = [] := by
            have := hk2.len
            rw [List.length_map] at this
            exact List.eq_nil_of_length_eq_zero (Nat.le_zero.1 this)
          have HVW := Lib.hid (show Vw ⟨⟨da, dn, dc, dP⟩, ha, hc, []⟩ from ⟨hk1.trans HMV.out, rfl⟩)
          have HRO := Lib.hid (show RgO wa4 w.heap.size 100 ⟨⟨da, dn, dc, dP⟩, ha, hc, []⟩ from hk3.base (HW6.out.trans' HY3.out).size)
          clear hk1 hk2 hk3
          have HY4 := Lib.hid ((HY3.out).trans' hal)
          have HV4 := Lib.hid (hal.heap' (HV.out))
          refine ⟨HY4.out, ?_⟩
          clear hal
          go_simp
          refine wpZ_l rfl rfl (wp_store_row _ _ _ rfl gb #[.slice da dn dc, .bool dP.rest, .slice ha 0 hc] rfl rfl _ _ (HV4.out) (by kernel_rfl) rfl (by simp [Value.oneCell']) ?_)
          have HZ1 := Lib.hid (RgO.row (cs' := #[.slice da dn dc, .bool dP.rest, .slice ha 0 hc]) (HRO.out) (HV4.out))
          have HZ2 := Lib.hid (show (wa4.setRow gb #[.slice da dn dc, .bool dP.rest, .slice ha 0 hc]).heap[gb]? = some (.cells #[.slice da dn dc, .bool dP.rest, .slice ha 0 hc] 55) from setRow_heap _ _ _ _ _ _ (HV4.out))
          have HZ3 := Lib.hid (Ext.setRow (cs := #[.slice da dn dc, .bool dP.rest, .slice ha 0 hc]) (HY4.out) HGB.out)
          refine ⟨fun _ => HZ3.out, ?_⟩
          go_simp
          refine wpZ_nil ?_
          go_wp2
          go_meet
          exact ⟨⟨⟨da, dn, dc, dP⟩, ha, hc, []⟩, gb, rfl, HVW.out, HZ1.out, HZ2.out, HZ3.out⟩
      · go_simp
        have hal := Ext.alloc' wa1 (.cells #[.slice none 0 0, .bool false, .slice none 0 0] 55)
        have hnw := heap_alloc_new wa1 (.cells #[.slice none 0 0, .bool false, .slice none 0 0] 55)
        generalize wa1.alloc (.cells #[.slice none 0 0, .bool false, .slice none 0 0] 55) = wa2 at hal hnw ⊢
        have HGB := Lib.hid (show w6.heap.size ≤ wa1.heap.size from (HY1.out).size)
        generalize wa1.heap.size = gb at hnw HGB ⊢
        have HV := Lib.hid hnw
        clear hnw
        have HY2 := Lib.hid ((HY1.out).trans' hal)
        have HRN' := Lib.hid (Row.ext (HRN.out) hal)
        refine ⟨HY2.out, ?_⟩
        clear hal
        refine wpZ_l rfl rfl ?_
        go_simp
        refine (HCC.out _ _ (HW6.out.trans' HY2.out) (HRN'.out)).mono ?_
        rintro en wa3 ⟨ka, kc, rfl, hko, hal⟩
        have HKO := Lib.hid (Row.of_own hko)
        clear hko
        have HY3 := Lib.hid ((HY2.out).trans' hal)
        have HV3 := Lib.hid (hal.heap' (HV.out))
        refine ⟨HY3.out, ?_⟩
        clear hal
        refine wpZ_l rfl rfl ?_
        go_simp
        refine (HRD.out ⟨ma, mn, mc, mP⟩ _ _ _ (HMQ.out.ext HY3.out).i HMV.out (HKO.out)).mono ?_
        rintro en wa4 ⟨⟨⟨da, dn, dc, dP⟩, ha, hc, D⟩, rfl, hk1, hk2, hk3, hal⟩
        obtain rfl : D = [] := by
          have := hk2.len
          rw [List.length_map] at this
          exact List.eq_nil_of_length_eq_zero (Nat.le_zero.1 this)
        have HVW := Lib.hid (show Vw ⟨⟨da, dn, dc, dP⟩, ha, hc, []⟩ from ⟨hk1.trans HMV.out, rfl⟩)
        have HRO := Lib.hid (show RgO wa4 w.heap.size 100 ⟨⟨da, dn, dc, dP⟩, ha, hc, []⟩ from hk3.base (HW6.out.trans' HY3.out).size)
        clear hk1 hk2 hk3
        have HY4 := Lib.hid ((HY3.out).trans' hal)
        have HV4 := Lib.hid (hal.heap' (HV3.out))
        refine ⟨HY4.out, ?_⟩
        clear hal
        go_simp
        refine wpZ_l rfl rfl (wp_store_row _ _ _ rfl gb #[.slice da dn dc, .bool dP.rest, .slice ha 0 hc] rfl rfl _ _ (HV4.out) (by kernel_rfl) rfl (by simp [Value.oneCell']) ?_)
        have HZ1 := Lib.hid (RgO.row (cs' := #[.slice da dn dc, .bool dP.rest, .slice ha 0 hc]) (HRO.out) (HV4.out))
        have HZ2 := Lib.hid (show (wa4.setRow gb #[.slice da dn dc, .bool dP.rest, .slice ha 0 hc]).heap[gb]? = some (.cells #[.slice da dn dc, .bool dP.rest, .slice ha 0 hc] 55) from setRow_heap _ _ _ _ _ _ (HV4.out))
        have HZ3 := Lib.hid (Ext.setRow (cs := #[.slice da dn dc, .bool dP.rest, .slice ha 0 hc]) (HY4.out) HGB.out)
        refine ⟨fun _ => HZ3.out, ?_⟩
        go_simp
        refine wpZ_nil ?_
        go_wp2
        go_meet
        exact ⟨⟨⟨da, dn, dc, dP⟩, ha, hc, []⟩, gb, rfl, HVW.out, HZ1.out, HZ2.out, HZ3.out⟩
    · go_simp
      have hal := Ext.alloc' wz (.cells #[.slice none 0 0, .bool false, .slice none 0 0] 55)
      have hnw := heap_alloc_new wz (.cells #[.slice none 0 0, .bool false, .slice none 0 0] 55)
      generalize wz.alloc (.cells #[.slice none 0 0, .bool false, .slice none 0 0] 55) = wa1 at hal hnw ⊢
      have HGB := Lib.hid (show w6.heap.size ≤ wz.heap.size from (HR5.out).size)
      generalize wz.heap.size = gb at hnw HGB ⊢
      have HV := Lib.hid hnw
      clear hnw
      have HY1 := Lib.hid ((HR5.out).trans' hal)
      refine ⟨HY1.out, ?_⟩
      clear hal
      refine wpZ_l rfl rfl ?_
      go_simp
      have hal := Ext.alloc' wa1 (.cells #[.slice xh 0 xk, .slice yh 0 yk] 51)
      have HRN := Lib.hid (Row.new wa1 #[.slice xh 0 xk, .slice yh 0 yk] 51 2 1 rfl (by decide))
      generalize wa1.alloc (.cells #[.slice xh 0 xk, .slice yh 0 yk] 51) = wa2 at hal HRN ⊢
      generalize wa1.heap.size = gr at HRN ⊢
      have HY2 := Lib.hid ((HY1.out).trans' hal)
      have HV2 := Lib.hid (hal.heap' (HV.out))
      refine ⟨HY2.out, ?_⟩
      clear hal
      refine wpZ_l rfl rfl ?_
      go_simp
      refine (HCC.out _ _ (HW6.out.trans' HY2.out) (HRN.out)).mono ?_
      rintro en wa3 ⟨ka, kc, rfl, hko, hal⟩
      have HKO := Lib.hid (Row.of_own hko)
      clear hko
      have HY3 := Lib.hid ((HY2.out).trans' hal)
      have HV3 := Lib.hid (hal.heap' (HV2.out))
      refine ⟨HY3.out, ?_⟩
      clear hal
      refine wpZ_l rfl rfl ?_
      go_simp
      refine (HRD.out ⟨ma, mn, mc, mP⟩ _ _ _ (HMQ.out.ext HY3.out).i HMV.out (HKO.out)).mono ?_
      rintro en wa4 ⟨⟨⟨da, dn, dc, dP⟩, ha, hc, D⟩, rfl, hk1, hk2, hk3, hal⟩
      obtain rfl : D = [] := by
        have := hk2.len
        rw [List.length_map] at this
        exact List.eq_nil_of_length_eq_zero (Nat.le_zero.1 this)
      have HVW := Lib.hid (show Vw ⟨⟨da, dn, dc, dP⟩, ha, hc, []⟩ from ⟨hk1.trans HMV.out, rfl⟩)
      have HRO := Lib.hid (show RgO wa4 w.heap.size 100 ⟨⟨da, dn, dc, dP⟩, ha, hc, []⟩ from hk3.base (HW6.out.trans' HY3.out).size)
      clear hk1 hk2 hk3
      have HY4 := Lib.hid ((HY3.out).trans' hal)
      have HV4 := Lib.hid (hal.heap' (HV3.out))
      refine ⟨HY4.out, ?_⟩
      clear hal
      go_simp
      refine wpZ_l rfl rfl (wp_store_row _ _ _ rfl gb #[.slice da dn dc, .bool dP.rest, .slice ha 0 hc] rfl rfl _ _ (HV4.out) (by kernel_rfl) rfl (by simp [Value.oneCell']) ?_)
      have HZ1 := Lib.hid (RgO.row (cs' := #[.slice da dn dc, .bool dP.rest, .slice ha 0 hc]) (HRO.out) (HV4.out))
      have HZ2 := Lib.hid (show (wa4.setRow gb #[.slice da dn dc, .bool dP.rest, .slice ha 0 hc]).heap[gb]? = some (.cells #[.slice da dn dc, .bool dP.rest, .slice ha 0 hc] 55) from setRow_heap _ _ _ _ _ _ (HV4.out))
      have HZ3 := Lib.hid (Ext.setRow (cs := #[.slice da dn dc, .bool dP.rest, .slice ha 0 hc]) (HY4.out) HGB.out)
      refine ⟨fun _ => HZ3.out, ?_⟩
      go_simp
      refine wpZ_nil ?_
      go_wp2
      go_meet
      exact ⟨⟨⟨da, dn, dc, dP⟩, ha, hc, []⟩, gb, rfl, HVW.out, HZ1.out, HZ2.out, HZ3.out⟩
  case rest =>
    obtain ⟨⟨⟨da, dn, dc, dP⟩, ha, hc, D⟩, g, rfl, hv, h1, h2, h3⟩ := hcut
    obtain rfl : D = [] := hv.hs
    have HVW := Lib.hid hv
    have HRO := Lib.hid h1
    have HG := Lib.hid h2
    have HX7 := Lib.hid (HX6.out.trans' h3)
    have HB4 := Lib.hid (HX7.out.heap' HB3.out)
    rename World => wc
    have HVO' := Lib.hid (show Calls Tryz.prog 19 #[.agg #[.slice da dn dc, .bool dP.rest], .slice ha 0 hc] wc (RetE (.bool false) wc) from HVO.out ⟨⟨da, dn, dc, dP⟩, ha, hc, []⟩ wc h1.i hv)
    have hcc : wc.heap[g]? = some (.cells #[.slice da dn dc, .bool dP.rest, .slice ha 0 hc] 55) := h2
    have HCX := Lib.hid hcc
    obtain ⟨hr45, c39, -⟩ := box3 hcc
    clear hv h1 h2 h3 hcc
    go_upto_region 12 with (first
      | ((with_reducible refine atSlot 45 ?_); refine wpList_of_wp rfl (wp_load_mid (op := ⟨some 45, _, _, _, _, _⟩) 39 _ rfl g 0 rfl [.slice da dn dc, .bool dP.rest] _ hr45 Tryz.underlying39 rfl (by kernel_rfl) ?_); clear hr45)
      | (go_at_call 19; (with_reducible refine HVO'.out.mono ?_); rintro en w8 ⟨rfl, hx8⟩; have HX8 := Lib.hid hx8; clear hx8)
      | fail)
    have hr50 := (box3 (HX8.out.heap' HCX.out)).2.2
    have HB5 := Lib.hid (HX8.out.heap' HB4.out)
    go_wp2_with (first
      | ((with_reducible refine atSlot 50 ?_); refine wpList_of_wp rfl (wp_load_mid (op := ⟨some 50, _, _, _, _, _⟩) 55 _ rfl g 0 rfl [.slice da dn dc, .bool dP.rest, .slice ha 0 hc] _ hr50 Tryz.underlying55 rfl (by kernel_rfl) ?_); clear hr50)
      | ((with_reducible refine atStore 4 ?_); refine wpList_of_wp rfl (wp_store_row (o := ⟨none, _, _, _, _, _⟩) _ _ _ rfl (b + 1 + 1) #[.slice da dn dc, .bool dP.rest, .slice ha 0 hc] rfl rfl _ _ HB5.out (by kernel_rfl) rfl (by simp [Value.oneCell']) ?_))
      | fail)
    refine bodyPost_ret (results_c2 (ty := 55) rfl _ (b + 1 + 1) [.slice da dn dc, .bool dP.rest, .slice ha 0 hc] _ rfl (box3 (setRow_heap _ _ _ _ _ _ HB5.out)).2.2 Tryz.underlying55 rfl (by kernel_rfl)) rfl ?_
    rw [HPO.out]
    exact ⟨⟨⟨da, dn, dc, dP⟩, ha, hc, []⟩, rfl, HVW.out, (HRO.out.ext HX8.out).row HB5.out, (HX2.out.trans' (HX7.out.trans' HX8.out)).setRow (by rw [HBB.out]; omega)⟩
end Go.Proofs.YtejljmikammcdaaGreatDoor
