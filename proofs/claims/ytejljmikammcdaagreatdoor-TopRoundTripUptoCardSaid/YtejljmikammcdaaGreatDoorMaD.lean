/-
  Layer mapping: right.
-/
import Derived.Test.YtejljmikammcdaaGreatDoorJoined10
import Derived.Deep.CutRange
namespace Go.Proofs.YtejljmikammcdaaGreatDoor
open Go.RowKit

/-- rule.NarrowLeft of a good line and a good pattern. -/
def NlK (l r p : Pat) (S : Nat) (w : World) (en : Ending) (w' : World) : Prop :=
  ∃ (g : Rl) (q : Bool) (e : Nat), en = .returned (.tuple #[g.v, .bool q, .int .i64 (e : Nat)]) ∧ (e = 0 ↔ ∀ m, meetP l p = some m → (carry l m r).parts.length ≤ 12) ∧
    (e = 0 → q = (meetP l p).isSome ∧ ∀ m, meetP l p = some m → g.r.P = carry l m r) ∧ RlO w' w.heap.size (S + S) g ∧ Ext w w'
theorem NarrowLeft_ok (k : Rl) (p : Pt) (S : Nat) (w : World) (hk : RlI w S k) (hp : PtI w S p) (hS : S ≤ 1073741824) (hr : OkR k.l.P k.r.P) (ho : OkP p.P) : Calls Tryz.prog 42 #[k.v, p.v] w (NlK k.l.P k.r.P p.P S w) := by
  refine (NarrowLeft_any k p S w hk hp hS).mono ?_
  rintro en w' ⟨g, q, e, rfl, ⟨h1, h2⟩, h3, h4⟩
  refine ⟨g, q, e, rfl, ⟨fun he m hm => ?_, fun h => ?_⟩, fun he => ?_, h3, h4⟩
  · obtain ⟨-, -, o, h5, -, -⟩ := h1 he
    cases o with
    | none => rw [show meetP k.l.P p.P = none from h5] at hm; cases hm
    | some mc =>
      obtain ⟨m', c⟩ := mc
      obtain ⟨h6, h7, h8⟩ := h5
      rw [h6] at hm; cases hm
      rw [← h7]; exact h8.le
  · by_cases he : e = 0
    · exact he
    · obtain ⟨m, h5, h6⟩ := h2 he hr ho
      have := h m h5
      omega
  · obtain ⟨-, -, o, h5, h6, h7⟩ := h1 he
    cases o with
    | none =>
      have h8 : meetP k.l.P p.P = none := h5
      exact ⟨by rw [h8]; exact h6, fun m hm => by rw [h8] at hm; cases hm⟩
    | some mc =>
      obtain ⟨m', c⟩ := mc
      obtain ⟨h8, h9, h10⟩ := h5
      exact ⟨by rw [h8]; exact h6, fun m hm => by rw [h8] at hm; cases hm; rw [(h7 _ _ rfl).2]; exact h9⟩
/-- Behind a call whose line is stored. -/
def NmO (l r p : Pat) (S B : Nat) (w : World) (v7 v8 v9 : Value) (w' : World) : Prop :=
  ∃ (g : Rl) (q : Bool) (e gb : Nat), v7 = .pointer (some ⟨gb, 0, none⟩) ∧ v8 = .bool q ∧ v9 = .int .i64 (e : Nat) ∧ (e = 0 ↔ ∀ m, meetP l p = some m → (carry l m r).parts.length ≤ 12) ∧
    (e = 0 → q = (meetP l p).isSome ∧ ∀ m, meetP l p = some m → g.r.P = carry l m r) ∧ RlO w' B (S + S) g ∧ w'.heap[gb]? = some (.cells #[.bool g.x, .slice g.l.a g.l.n g.l.c, .bool g.l.P.rest, .slice g.r.a g.r.n g.r.c, .bool g.r.P.rest] 48) ∧ Ext w w'
theorem rlo_row {w : World} {B S g : Nat} {cs : Array Value} {cs' : Array Value} {k : Rl} (h : RlO w B S k) (hg : w.heap[g]? = some (.cells cs 48 (0, 0))) : RlO (w.setRow g cs') B S k :=
  ⟨⟨own_other h.l.own (grown_setRow _ _ _) (fun e => own_apart h.l.own hg (by decide) e.symm), h.l.small⟩, ⟨own_other h.r.own (grown_setRow _ _ _) (fun e => own_apart h.r.own hg (by decide) e.symm), h.r.small⟩⟩

/-- mapping.right: what it answers. -/
def RghO (k : En) (S : Nat) (w : World) (en : Ending) (w' : World) : Prop :=
  ∃ (g : Rg) (e : Nat), en = .returned (.tuple #[g.v, .int .i64 (e : Nat)]) ∧ (e = 0 ↔ FitsH k.l.P k.r.P (k.hs.map Pt.P)) ∧ (e = 0 → g.b = k.r ∧ g.hs.map Pt.P = rightH k.l.P k.r.P (k.hs.map Pt.P)) ∧ PtsO w' w.heap.size (S + S) g.a g.c g.hs ∧ Ext w w'
def RtRel (w2 : World) (k : En) (b S : Nat) (v16 : Value) (wr : World) : Prop :=
  ∃ (j : Nat) (G : List Pt) (a : Option Addr) (c : Nat), v16 = .int .i64 j ∧ j ≤ k.hs.length ∧ G.length ≤ j ∧ wr.heap[b]? = some (.cells #[.slice k.r.a k.r.n k.r.c, .bool k.r.P.rest, .slice a G.length c] 55) ∧
    PtsO wr w2.heap.size (S + S) a c G ∧ G.map Pt.P = rightH k.l.P k.r.P ((k.hs.take j).map Pt.P) ∧ FitsH k.l.P k.r.P ((k.hs.take j).map Pt.P) ∧ Ext w2 wr
theorem fitsH_snoc {l r h : Pat} {hs : List Pat} : FitsH l r (hs ++ [h]) ↔ FitsH l r hs ∧ ∀ m, meetP l h = some m → (carry l m r).parts.length ≤ 12 := by
  unfold FitsH
  constructor
  · exact fun H => ⟨fun x hx => H x (List.mem_append_left _ hx), H h (by simp)⟩
  · rintro ⟨h1, h2⟩ x hx
    rcases List.mem_append.1 hx with hx | hx
    · exact h1 x hx
    · obtain rfl : x = h := by simpa using hx
      exact h2
set_option maxRecDepth 100000 in
set_option maxHeartbeats 8000000 in
theorem right_any (k : En) (S : Nat) (w : World) (hk : EnI w S k) (hS : S ≤ 1073741824) (hr : OkR k.l.P k.r.P) (hh : ∀ q ∈ k.hs, OkP q.P) (hl : k.hs.length ≤ 1048576) : Calls Tryz.prog 22 #[k.v] w (RghO k S w) := by
  have HROW := Lib.hid fun w' (h : Ext w w') => hk.hs.row.ext h
  have HLI := Lib.hid fun w' => line_any k w'
  have HNL := Lib.hid fun (q : Pt) (hq : q ∈ k.hs) w' (h : Ext w w') => NarrowLeft_ok k.line q S w' (hk.line.ext h) ((hk.hs.each q hq).ext h) hS hr (hh q hq)
  clear hk hr hh
  obtain ⟨⟨la, ln, lc, lP⟩, ⟨ra, rn, rc, rP⟩, ha, hc, L⟩ := k
  obtain ⟨post, hpo⟩ : ∃ q : Ending → World → Prop, q = RghO ⟨⟨la, ln, lc, lP⟩, ⟨ra, rn, rc, rP⟩, ha, hc, L⟩ S w := ⟨_, rfl⟩
  rw [← hpo]
  have HPO := Lib.hid hpo
  have HX := Lib.hid (two_boxes w #[.slice la ln lc, .bool lP.rest, .slice ra rn rc, .bool rP.rest, .slice ha L.length hc] #[.slice none 0 0, .bool false, .slice none 0 0] 60 55)
  clear hpo
  go_enter Tryz.func22, Tryz.ntmps22
  go_upto_region 1 with fail
  generalize (w.alloc (.cells #[.slice la ln lc, .bool lP.rest, .slice ra rn rc, .bool rP.rest, .slice ha L.length hc] 60)).alloc (.cells #[.slice none 0 0, .bool false, .slice none 0 0] 55) = w2 at HX ⊢
  obtain ⟨hx2, hh1, hh2⟩ := HX.out
  have HX2 := Lib.hid hx2
  have HB1 := Lib.hid hh1
  have HB2 := Lib.hid hh2
  obtain ⟨-, hr11, c14, -⟩ := box5e hh1
  obtain ⟨b, hb⟩ : ∃ b, b = w.heap.size := ⟨_, rfl⟩
  rw [← hb] at HB1 HB2 hr11 c14 ⊢
  have HBB := Lib.hid hb
  have HP4 := Lib.hid (put_new w2 #[.slice none 0 0, .bool false, .slice none 0 0] #[.slice ra rn rc, .bool rP.rest, .slice none 0 0] 55)
  have hn4 := heap_alloc_new w2 (.cells #[.slice none 0 0, .bool false, .slice none 0 0] 55)
  clear hx2 hh1 hh2 HX hb c14
  go_upto_region 2 with (first
    | ((with_reducible refine atSlot 11 ?_); refine wpList_of_wp rfl (wp_load_mid (op := ⟨some 11, _, _, _, _, _⟩) 39 _ rfl b 2 rfl [.slice ra rn rc, .bool rP.rest] _ hr11 Tryz.underlying39 rfl (by kernel_rfl) ?_); clear hr11)
    | ((with_reducible refine atStore 4 ?_); refine wpList_of_wp rfl (wp_store_row (o := ⟨none, _, _, _, _, _⟩) _ _ _ rfl w2.heap.size #[.slice ra rn rc, .bool rP.rest, .slice none 0 0] rfl rfl _ _ hn4 (by kernel_rfl) rfl (by simp [Value.oneCell']) ?_); clear hn4)
    | fail)
  generalize (w2.alloc (.cells #[.slice none 0 0, .bool false, .slice none 0 0] 55)).setRow w2.heap.size #[.slice ra rn rc, .bool rP.rest, .slice none 0 0] = w4 at HP4 ⊢
  obtain ⟨hx4, hb4⟩ := HP4.out
  have HX4 := Lib.hid hx4
  have HB4 := Lib.hid hb4
  have c14 := (box5e (hx4.heap' HB1.out)).2.2.1
  have HG4 := Lib.hid (Nat.le_refl w2.heap.size)
  obtain ⟨g, hg⟩ : ∃ g, g = w2.heap.size := ⟨_, rfl⟩
  rw [← hg] at HB4 ⊢
  have HGG := Lib.hid hg
  clear hx4 hb4 HP4 hg HG4
  go_upto_region 3 with fail
  clear c14
  go_loopw [16] (RtRel w2 ⟨⟨la, ln, lc, lP⟩, ⟨ra, rn, rc, rP⟩, ha, hc, L⟩ g S) (fun i _ => L.length - (intOf i).toNat)
  case atStart => exact ⟨0, [], none, 0, rfl, Nat.zero_le _, Nat.le_refl _, HB4.out, PtsO.nil _ _ _, rfl, (fun h hh => nomatch hh), HX4.out⟩
  case round =>
    obtain ⟨j, G, a, c, rfl, hj, hGj, hbox, hG, hmap, hfit, hx⟩ := hrel
    rename World => wd
    have HXD := Lib.hid (show Ext w2 wd from hx)
    have HBX := Lib.hid hbox
    have HGO := Lib.hid hG
    have HMA := Lib.hid hmap
    have HFI := Lib.hid hfit
    replace hj : j ≤ L.length := hj
    clear hx hbox hG hmap hfit
    by_cases hjl : j < L.length
    · obtain ⟨p, hp⟩ : ∃ p, L[j]? = some p := ⟨_, List.getElem?_eq_getElem hjl⟩
      have HP := Lib.hid hp
      have HTK := Lib.hid (show (L.take (j + 1)).map Pt.P = (L.take j).map Pt.P ++ [p.P] by rw [List.take_add_one, hp]; simp)
      have HXW := Lib.hid (HX2.out.trans' HXD.out)
      have hrow := HROW.out wd HXW.out
      have HNP := Lib.hid (HNL.out p (List.mem_of_getElem? hp))
      have HPN := Lib.hid (put_new wd #[.slice none 0 0, .bool false] #[.slice p.a p.n p.c, .bool p.P.rest] 39)
      have HNN := heap_alloc_new wd (.cells #[.slice none 0 0, .bool false] 39)
      clear hp
      go_upto_region 5 with (first
        | ((with_reducible refine atSlot 18 ?_); refine wpList_of_wp rfl (owp_ix (o := ⟨some 18, _, _, _, _, _⟩) _ _ rfl Tryz.elPat rfl hrow j rfl rfl hjl ?_); intro b1 o1 hc2; have hd := flat_range pt_two HP.out hc2; clear hc2 hrow)
        | ((with_reducible refine atSlot 19 ?_); refine wpList_of_wp rfl (wp_load_mid (op := ⟨some 19, _, _, _, _, _⟩) 39 _ rfl b1 o1 rfl [.slice p.a p.n p.c, .bool p.P.rest] _ hd Tryz.underlying39 rfl (by kernel_rfl) ?_); clear hd)
        | ((with_reducible refine atStore 6 ?_); refine wpList_of_wp rfl (wp_store_row (o := ⟨none, _, _, _, _, _⟩) _ _ _ rfl wd.heap.size #[.slice p.a p.n p.c, .bool p.P.rest] rfl rfl _ _ HNN (by kernel_rfl) rfl (by simp [Value.oneCell']) ?_); clear HNN)
        | fail)
      generalize (wd.alloc (.cells #[.slice none 0 0, .bool false] 39)).setRow wd.heap.size #[.slice p.a p.n p.c, .bool p.P.rest] = w5 at HPN ⊢
      obtain ⟨hx5, hb5⟩ := HPN.out
      have HX5 := Lib.hid hx5
      have HX25 := Lib.hid (HXD.out.trans' hx5)
      have HF6 := Lib.hid hb5
      generalize wd.heap.size = g6 at HF6 ⊢
      clear hx5 hb5 HPN
      go_simp
      go_cut [7, 8, 9] from 20 to 27 (fun s7 s8 s9 w' => NmO lP rP p.P S w2.heap.size w5 s7 s8 s9 w')
      case first =>
        have E5 := Ext.drew' w5
        have HR5 := Lib.hid (show Ext w5 w5.drew from E5)
        have HQ1 := Lib.hid fun w' (h : Ext w5 w') => (HX25.out.trans' h).heap' HB1.out
        have HQ6 := Lib.hid fun w' (h : Ext w5 w') => h.heap' HF6.out
        have HW5 := Lib.hid (HX2.out.trans' HX25.out)
        clear E5
        refine wp_region_z (fun w' => Ext w5 w') HR5.out [] (.qs [0, 2] (.alt 1 (.alt 3 (.qs [4, 5, 6, 7] (.l 8 (.l 9 (.qs [10, 11] .nil)))) (.alt 8 (.l 3 (.qs [4, 5, 6, 7] (.l 9 (.qs [10, 11] .nil)))) .stop)) (.alt 8 (.l 1 (.l 3 (.qs [4, 5, 6, 7] (.l 9 (.qs [10, 11] .nil))))) .stop))) (by kernel_rfl) (by kernel_rfl) ?_
        refine wpZ_q rfl rfl (.agg #[.slice la ln lc, .bool lP.rest, .slice ra rn rc, .bool rP.rest, .slice ha L.length hc]) (fun w' hx' => by obtain ⟨d0, d1, d2, d3, d4⟩ := box5c (HQ1.out w' hx'); go_simp; try rfl) ?_
        go_simp
        refine wpZ_q rfl rfl (.agg #[.slice p.a p.n p.c, .bool p.P.rest]) (fun w' hx' => by obtain ⟨d0, d1, -⟩ := box2 (HQ6.out w' hx'); go_simp; try rfl) ?_
        go_simp
        refine wpZ_alt rfl rfl ?_ (wpZ_alt rfl rfl ?_ wpZ_stop)
        · go_simp
          refine (HLI.out _).mono ?_
          rintro en wa1 ⟨rfl, hxa1⟩
          have HY1 := Lib.hid ((HR5.out).trans' hxa1)
          refine ⟨HY1.out, ?_⟩
          clear hxa1
          go_simp
          refine wpZ_alt rfl rfl ?_ (wpZ_alt rfl rfl ?_ wpZ_stop)
          · go_simp
            go_simp
            refine (HNP.out _ (HW5.out.trans' HY1.out)).mono ?_
            rintro en wa2 ⟨⟨gx, ⟨ma, mn, mc, mP⟩, ⟨ca, cn, cc, cP⟩⟩, q, e, rfl, h1, h2, h3, hxa2⟩
            have HH1 := Lib.hid h1
            have HH2 := Lib.hid h2
            have HY2 := Lib.hid ((HY1.out).trans' hxa2)
            have HH3 := Lib.hid (show RlO wa2 w2.heap.size (S + S) ⟨gx, ⟨ma, mn, mc, mP⟩, ⟨ca, cn, cc, cP⟩⟩ from h3.base (HX25.out.trans' HY1.out).size)
            refine ⟨HY2.out, ?_⟩
            clear h1 h2 h3 hxa2
            go_simp
            iterate 4 ((refine wpZ_q rfl rfl _ (fun w' hx' => by go_simp; try rfl) ?_; go_simp))
            refine wpZ_l rfl rfl ?_
            go_simp
            have hal := Ext.alloc' wa2 (.cells #[.bool false, .slice none 0 0, .bool false, .slice none 0 0, .bool false] 48)
            have hnw := heap_alloc_new wa2 (.cells #[.bool false, .slice none 0 0, .bool false, .slice none 0 0, .bool false] 48)
            generalize wa2.alloc (.cells #[.bool false, .slice none 0 0, .bool false, .slice none 0 0, .bool false] 48) = wa3 at hal hnw ⊢
            have HGB := Lib.hid (show w5.heap.size ≤ wa2.heap.size from (HY2.out).size)
            generalize hgb : wa2.heap.size = gb at hnw HGB ⊢
            have HY3 := Lib.hid ((HY2.out).trans' hal)
            have HH4 := Lib.hid ((HH3.out).ext hal)
            have HV3 := Lib.hid hnw
            refine ⟨HY3.out, ?_⟩
            clear hal hnw
            go_simp
            refine wpZ_l rfl rfl (wp_store_row _ _ _ rfl gb #[.bool gx, .slice ma mn mc, .bool mP.rest, .slice ca cn cc, .bool cP.rest] rfl rfl _ _ HV3.out (by kernel_rfl) rfl (by simp [Value.oneCell']) ?_)
            have HZ1 := Lib.hid (rlo_row (cs' := #[.bool gx, .slice ma mn mc, .bool mP.rest, .slice ca cn cc, .bool cP.rest]) (HH4.out) HV3.out)
            have HZ2 := Lib.hid (show (wa3.setRow gb #[.bool gx, .slice ma mn mc, .bool mP.rest, .slice ca cn cc, .bool cP.rest]).heap[gb]? = some (.cells #[.bool gx, .slice ma mn mc, .bool mP.rest, .slice ca cn cc, .bool cP.rest] 48) from setRow_heap _ _ _ _ _ _ HV3.out)
            have HZ3 := Lib.hid (Ext.setRow (cs := #[.bool gx, .slice ma mn mc, .bool mP.rest, .slice ca cn cc, .bool cP.rest]) (HY3.out) HGB.out)
            refine ⟨fun _ => HZ3.out, ?_⟩
            go_simp
            iterate 2 ((refine wpZ_q rfl rfl _ (fun w' hx' => by go_simp; try rfl) ?_; go_simp))
            refine wpZ_nil ?_
            go_wp2
            go_meet
            exact ⟨⟨gx, ⟨ma, mn, mc, mP⟩, ⟨ca, cn, cc, cP⟩⟩, q, e, gb, rfl, rfl, rfl, HH1.out, HH2.out, HZ1.out, HZ2.out, HZ3.out⟩
          · go_simp
            go_simp
            have hal := Ext.alloc' wa1 (.cells #[.bool false, .slice none 0 0, .bool false, .slice none 0 0, .bool false] 48)
            have hnw := heap_alloc_new wa1 (.cells #[.bool false, .slice none 0 0, .bool false, .slice none 0 0, .bool false] 48)
            generalize wa1.alloc (.cells #[.bool false, .slice none 0 0, .bool false, .slice none 0 0, .bool false] 48) = wa2 at hal hnw ⊢
            have HGB := Lib.hid (show w5.heap.size ≤ wa1.heap.size from (HY1.out).size)
            generalize hgb : wa1.heap.size = gb at hnw HGB ⊢
            have HY2 := Lib.hid ((HY1.out).trans' hal)
            have HV2 := Lib.hid hnw
            refine ⟨HY2.out, ?_⟩
            clear hal hnw
            refine wpZ_l rfl rfl ?_
            go_simp
            refine (HNP.out _ (HW5.out.trans' HY2.out)).mono ?_
            rintro en wa3 ⟨⟨gx, ⟨ma, mn, mc, mP⟩, ⟨ca, cn, cc, cP⟩⟩, q, e, rfl, h1, h2, h3, hxa3⟩
            have HH1 := Lib.hid h1
            have HH2 := Lib.hid h2
            have HY3 := Lib.hid ((HY2.out).trans' hxa3)
            have HH3 := Lib.hid (show RlO wa3 w2.heap.size (S + S) ⟨gx, ⟨ma, mn, mc, mP⟩, ⟨ca, cn, cc, cP⟩⟩ from h3.base (HX25.out.trans' HY2.out).size)
            have HV3 := Lib.hid (hxa3.heap' HV2.out)
            refine ⟨HY3.out, ?_⟩
            clear h1 h2 h3 hxa3
            go_simp
            iterate 4 ((refine wpZ_q rfl rfl _ (fun w' hx' => by go_simp; try rfl) ?_; go_simp))
            refine wpZ_l rfl rfl (wp_store_row _ _ _ rfl gb #[.bool gx, .slice ma mn mc, .bool mP.rest, .slice ca cn cc, .bool cP.rest] rfl rfl _ _ HV3.out (by kernel_rfl) rfl (by simp [Value.oneCell']) ?_)
            have HZ1 := Lib.hid (rlo_row (cs' := #[.bool gx, .slice ma mn mc, .bool mP.rest, .slice ca cn cc, .bool cP.rest]) (HH3.out) HV3.out)
            have HZ2 := Lib.hid (show (wa3.setRow gb #[.bool gx, .slice ma mn mc, .bool mP.rest, .slice ca cn cc, .bool cP.rest]).heap[gb]? = some (.cells #[.bool gx, .slice ma mn mc, .bool mP.rest, .slice ca cn cc, .bool cP.rest] 48) from setRow_heap _ _ _ _ _ _ HV3.out)
            have HZ3 := Lib.hid (Ext.setRow (cs := #[.bool gx, .slice ma mn mc, .bool mP.rest, .slice ca cn cc, .bool cP.rest]) (HY3.out) HGB.out)
            refine ⟨fun _ => HZ3.out, ?_⟩
            go_simp
            iterate 2 ((refine wpZ_q rfl rfl _ (fun w' hx' => by go_simp; try rfl) ?_; go_simp))
            refine wpZ_nil ?_
            go_wp2
            go_meet
            exact ⟨⟨gx, ⟨ma, mn, mc, mP⟩, ⟨ca, cn, cc, cP⟩⟩, q, e, gb, rfl, rfl, rfl, HH1.out, HH2.out, HZ1.out, HZ2.out, HZ3.out⟩
        · go_simp
          have hal := (Ext.alloc' w5 (.cells #[.bool false, .slice none 0 0, .bool false, .slice none 0 0, .bool false] 48)).trans' (Ext.drew' _)
          have hnw := (Ext.drew' (w5.alloc (.cells #[.bool false, .slice none 0 0, .bool false, .slice none 0 0, .bool false] 48))).heap' (heap_alloc_new w5 (.cells #[.bool false, .slice none 0 0, .bool false, .slice none 0 0, .bool false] 48))
          generalize (w5.alloc (.cells #[.bool false, .slice none 0 0, .bool false, .slice none 0 0, .bool false] 48)).drew = wa1 at hal hnw ⊢
          have HGB := Lib.hid (Nat.le_refl w5.heap.size)
          have HY1 := Lib.hid hal
          have HV1 := Lib.hid hnw
          refine ⟨HY1.out, ?_⟩
          clear hal hnw
          refine wpZ_l rfl rfl ?_
          go_simp
          refine (HLI.out _).mono ?_
          rintro en wa2 ⟨rfl, hxa2⟩
          have HY2 := Lib.hid ((HY1.out).trans' hxa2)
          have HV2 := Lib.hid (hxa2.heap' HV1.out)
          refine ⟨HY2.out, ?_⟩
          clear hxa2
          refine wpZ_l rfl rfl ?_
          go_simp
          refine (HNP.out _ (HW5.out.trans' HY2.out)).mono ?_
          rintro en wa3 ⟨⟨gx, ⟨ma, mn, mc, mP⟩, ⟨ca, cn, cc, cP⟩⟩, q, e, rfl, h1, h2, h3, hxa3⟩
          have HH1 := Lib.hid h1
          have HH2 := Lib.hid h2
          have HY3 := Lib.hid ((HY2.out).trans' hxa3)
          have HH3 := Lib.hid (show RlO wa3 w2.heap.size (S + S) ⟨gx, ⟨ma, mn, mc, mP⟩, ⟨ca, cn, cc, cP⟩⟩ from h3.base (HX25.out.trans' HY2.out).size)
          have HV3 := Lib.hid (hxa3.heap' HV2.out)
          refine ⟨HY3.out, ?_⟩
          clear h1 h2 h3 hxa3
          go_simp
          iterate 4 ((refine wpZ_q rfl rfl _ (fun w' hx' => by go_simp; try rfl) ?_; go_simp))
          refine wpZ_l rfl rfl (wp_store_row _ _ _ rfl w5.heap.size #[.bool gx, .slice ma mn mc, .bool mP.rest, .slice ca cn cc, .bool cP.rest] rfl rfl _ _ HV3.out (by kernel_rfl) rfl (by simp [Value.oneCell']) ?_)
          have HZ1 := Lib.hid (rlo_row (cs' := #[.bool gx, .slice ma mn mc, .bool mP.rest, .slice ca cn cc, .bool cP.rest]) (HH3.out) HV3.out)
          have HZ2 := Lib.hid (show (wa3.setRow w5.heap.size #[.bool gx, .slice ma mn mc, .bool mP.rest, .slice ca cn cc, .bool cP.rest]).heap[w5.heap.size]? = some (.cells #[.bool gx, .slice ma mn mc, .bool mP.rest, .slice ca cn cc, .bool cP.rest] 48) from setRow_heap _ _ _ _ _ _ HV3.out)
          have HZ3 := Lib.hid (Ext.setRow (cs := #[.bool gx, .slice ma mn mc, .bool mP.rest, .slice ca cn cc, .bool cP.rest]) (HY3.out) HGB.out)
          refine ⟨fun _ => HZ3.out, ?_⟩
          go_simp
          iterate 2 ((refine wpZ_q rfl rfl _ (fun w' hx' => by go_simp; try rfl) ?_; go_simp))
          refine wpZ_nil ?_
          go_wp2
          go_meet
          exact ⟨⟨gx, ⟨ma, mn, mc, mP⟩, ⟨ca, cn, cc, cP⟩⟩, q, e, w5.heap.size, rfl, rfl, rfl, HH1.out, HH2.out, HZ1.out, HZ2.out, HZ3.out⟩
      case rest =>
        obtain ⟨⟨gx, ⟨ma, mn, mc, mP⟩, ⟨ca, cn, cc, cP⟩⟩, q, e, gb, rfl, rfl, rfl, h1, h2, h3, h4, h5⟩ := hcut
        have HXC := Lib.hid (HX5.out.trans' h5)
        have HXC2 := Lib.hid (HXD.out.trans' HXC.out)
        have H1 := Lib.hid h1
        have H2 := Lib.hid h2
        have H3 := Lib.hid h3
        have H4 := Lib.hid h4
        clear h1 h2 h3 h4 h5
        by_cases he0 : e = 0
        · subst he0
          obtain ⟨hq, hm⟩ := H2.out rfl
          have hfi := H1.out.1 rfl
          obtain ⟨M, hM⟩ : ∃ M, M = meetP lP p.P := ⟨_, rfl⟩
          rw [← hM] at hq hm hfi
          have HSN := Lib.hid (show rightH lP rP ((L.take (j + 1)).map Pt.P) = rightH lP rP ((L.take j).map Pt.P) ++ (M.map fun m => carry lP m rP).toList by rw [HTK.out, right_snoc, hM])
          have HFN := Lib.hid (show FitsH lP rP ((L.take (j + 1)).map Pt.P) by rw [HTK.out]; exact fitsH_snoc.2 ⟨HFI.out, by rw [← hM]; exact hfi⟩)
          have HMC := Lib.hid hm
          clear hM hfi hm
          subst hq
          cases M with
          | none =>
            go_wp2
            refine ⟨⟨j + 1, G, a, c, by go_num, hjl, by omega, HXC.out.heap' HBX.out, HGO.out.ext HXC.out, ?_, HFN.out, HXC2.out⟩, by simp [intOf]; omega⟩
            show G.map Pt.P = rightH lP rP ((L.take (j + 1)).map Pt.P)
            rw [HSN.out]
            simpa using HMA.out
          | some m =>
            have hbx := HXC.out.heap' HBX.out
            have c33 := (box3 hbx).2.1
            have hr35 := (box5 H4.out).2.2.1
            have HAL := Lib.hid (Ext.alloc' wc (.cells #[.slice ca cn cc, .bool cP.rest] 39))
            have HOB := Lib.hid (own_ext HGO.out.own (HXC.out.trans' HAL.out))
            have HBB2 := Lib.hid (HAL.out.heap' hbx)
            have HXA := Lib.hid (HXC2.out.trans' HAL.out)
            clear hbx
            go_wp2_with (first
              | ((with_reducible refine atSlot 35 ?_); refine wpList_of_wp rfl (wp_load_mid (op := ⟨some 35, _, _, _, _, _⟩) 39 _ rfl gb 3 rfl [.slice ca cn cc, .bool cP.rest] _ hr35 Tryz.underlying39 rfl (by kernel_rfl) ?_); clear hr35)
              | ((with_reducible refine atSlot 37 ?_); refine wpList_of_wp rfl (owp_app (o := ⟨some 37, _, _, _, _, _⟩) _ _ rfl Tryz.elPat rfl HOB.out rfl (Row.new wc #[.slice ca cn cc, .bool cP.rest] 39 1 2 rfl (by decide)) (pt_one ⟨ca, cn, cc, cP⟩) (by omega) (by unfold maxLen; omega) HXA.out.size ?_); intro a6 c6 w6 ho6 hg6; have HO6 := Lib.hid ho6; have HX6 := Lib.hid (show Ext w2 w6 from below_app HXA.out HOB.out hg6 HXA.out.size); have HB6 := Lib.hid (box_app HBB2.out HOB.out (by decide) hg6); have HK6 := Lib.hid (fun (o : Pt) (h : PtO wc w2.heap.size (S + S) o) => rgo_keep (h.ext HAL.out) HOB.out (by decide) hg6); clear ho6 hg6 c33)
              | ((with_reducible refine atStore 38 ?_); refine wpList_of_wp rfl (owp_st1 (o := ⟨none, _, _, _, _, _⟩) _ _ _ rfl g 2 (.slice a6 (G.length + 1) c6) rfl rfl rfl (box_there HB6.out (by simp)) (by kernel_rfl) rfl ?_))
              | fail)
            have hgr := grown_setCell' w6 g 2 (.slice a6 (G.length + 1) c6)
            have HA := Lib.hid (box_set (i := 2) HB6.out (.slice a6 (G.length + 1) c6))
            have HB := Lib.hid (own_other HO6.out hgr (fun e => own_apart HO6.out HB6.out (by decide) e.symm))
            have HD := Lib.hid fun (o : Pt) (h : PtO w6 w2.heap.size (S + S) o) => (show PtO (w6.setCell ⟨g, 2, none⟩ (.slice a6 (G.length + 1) c6)) w2.heap.size (S + S) o from ⟨own_other h.own hgr (fun e => own_apart h.own HB6.out (by decide) e.symm), h.small⟩)
            have HE := Lib.hid (show Ext w2 (w6.setCell ⟨g, 2, none⟩ (.slice a6 (G.length + 1) c6)) from Ext.rd HX6.out hgr (by rw [HGG.out]; exact Nat.le_refl _))
            clear hgr
            refine ⟨⟨j + 1, G ++ [⟨ca, cn, cc, cP⟩], a6, c6, by go_num, hjl, by rw [List.length_append]; show G.length + 1 ≤ j + 1; omega, ?_, ⟨?_, fun o ho => ?_⟩, ?_, HFN.out, HE.out⟩, by simp [intOf]; omega⟩
            · rw [List.length_append]; exact HA.out
            · rw [List.length_append, List.flatMap_append]; exact HB.out
            · rcases List.mem_append.1 ho with ho | ho
              · exact HD.out o (HK6.out o ((HGO.out.each o ho).ext HXC.out))
              · obtain rfl : o = ⟨ca, cn, cc, cP⟩ := by simpa using ho
                exact HD.out _ (HK6.out _ H3.out.r)
            · show (G ++ [_]).map Pt.P = rightH lP rP ((L.take (j + 1)).map Pt.P)
              rw [HSN.out, List.map_append, show G.map Pt.P = rightH lP rP ((L.take j).map Pt.P) from HMA.out]
              have : cP = carry lP m rP := HMC.out m rfl
              simp [this]
        · obtain ⟨q1, q2⟩ := neI (x := (e : Int)) (y := 0) (by omega)
          have HH2 := Lib.hid (HXC2.out.heap' HB2.out)
          go_wp2_with (first
            | ((with_reducible refine atStore 2 ?_); refine wpList_of_wp rfl (wp_store_row (o := ⟨none, _, _, _, _, _⟩) _ _ _ rfl (b + 1) #[.slice none 0 0, .bool false, .slice none 0 0] rfl rfl _ _ HH2.out (by kernel_rfl) rfl (by simp [Value.oneCell']) ?_))
            | fail)
          refine bodyPost_ret (results_c1 (ty := 55) rfl _ (b + 1) [.slice none 0 0, .bool false, .slice none 0 0] _ rfl (box3 (setRow_heap _ _ _ _ _ _ HH2.out)).2.2 Tryz.underlying55 rfl (by kernel_rfl)) rfl ?_
          rw [HPO.out]
          refine ⟨⟨⟨none, 0, 0, ⟨[], false⟩⟩, none, 0, []⟩, 72, rfl, ⟨(fun h => by cases h), fun h => absurd (H1.out.2 ?_) he0⟩, (fun h => by cases h), PtsO.nil _ _ _, (HX2.out.trans' HXC2.out).setRow (by rw [HBB.out]; omega)⟩
          exact h p.P (List.mem_map_of_mem (List.mem_of_getElem? HP.out))
    · have hjL : j = L.length := by omega
      have hr40 := (box3 HBX.out).2.2
      have HH2 := Lib.hid (HXD.out.heap' HB2.out)
      go_wp2_with (first
        | ((with_reducible refine atSlot 40 ?_); refine wpList_of_wp rfl (wp_load_mid (op := ⟨some 40, _, _, _, _, _⟩) 55 _ rfl g 0 rfl [.slice ra rn rc, .bool rP.rest, .slice a G.length c] _ hr40 Tryz.underlying55 rfl (by kernel_rfl) ?_); clear hr40)
        | ((with_reducible refine atStore 2 ?_); refine wpList_of_wp rfl (wp_store_row (o := ⟨none, _, _, _, _, _⟩) _ _ _ rfl (b + 1) #[.slice ra rn rc, .bool rP.rest, .slice a G.length c] rfl rfl _ _ HH2.out (by kernel_rfl) rfl (by simp [Value.oneCell']) ?_))
        | fail)
      refine bodyPost_ret (results_c1 (ty := 55) rfl _ (b + 1) [.slice ra rn rc, .bool rP.rest, .slice a G.length c] _ rfl (box3 (setRow_heap _ _ _ _ _ _ HH2.out)).2.2 Tryz.underlying55 rfl (by kernel_rfl)) rfl ?_
      rw [HPO.out]
      have hgr := grown_setRow wd (b + 1) #[.slice ra rn rc, .bool rP.rest, .slice a G.length c]
      have hfi : FitsH lP rP ((L.take j).map Pt.P) := HFI.out
      have hma : G.map Pt.P = rightH lP rP ((L.take j).map Pt.P) := HMA.out
      rw [hjL, List.take_length] at hfi hma
      exact ⟨⟨⟨ra, rn, rc, rP⟩, a, c, G⟩, 0, rfl, ⟨fun _ => hfi, fun _ => rfl⟩, fun _ => ⟨rfl, hma⟩, ⟨own_other (own_base HGO.out.own HX2.out.size) hgr (fun e => own_apart HGO.out.own HH2.out (by decide) e.symm), fun q hq =>
        ⟨own_other (own_base (HGO.out.each q hq).own HX2.out.size) hgr (fun e => own_apart (HGO.out.each q hq).own HH2.out (by decide) e.symm), (HGO.out.each q hq).small⟩⟩, (HX2.out.trans' HXD.out).setRow (by rw [HBB.out]; omega)⟩
end Go.Proofs.YtejljmikammcdaaGreatDoor
