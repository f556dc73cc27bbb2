/-
  The law ChainKeeps.
-/
import Derived.Test.YtkhjeeaojlaagaaChaX
import Derived.Test.YtkhjeeaojlaagaaTail
namespace Go.Proofs.Ytkhjeeaojlaagaa
open Go.RowKit

/-- What is kept of a round: the chain, the contents, the last content. -/
structure Kp (wr : World) (B : Nat) (a ha ba : Option Addr) (m c hc bn bc : Nat) (L : List Lk) (S : List (List UInt8 × Nat)) (BL : List Bt) (bl : List UInt8) : Prop where
  own : OwnLks wr B a m c L
  val : Val (L.map Lk.d) S
  tl : Tl wr B 28 ha m hc (BL.map Bt.v)
  dat : ∀ y ∈ BL, wr.ownsRow B 5 1 (.slice y.a y.n y.c) y.n (y.l.map u8) ∧ y.n ≤ 140737488355328
  same : BL.map Bt.l = S.map Prod.fst
  last : wr.ownsRow B 5 1 (.slice ba bn bc) bn (bl.map u8)
theorem Kp.kept {w w' : World} {B k : Nat} {a ha ba : Option Addr} {m c hc bn bc : Nat} {L : List Lk} {S : List (List UInt8 × Nat)} {BL : List Bt} {bl : List UInt8} (h : Kp w B a ha ba m c hc bn bc L S BL bl) (hg : w.grownBy w' (some k)) (hk : k < B) : Kp w' B a ha ba m c hc bn bc L S BL bl :=
  ⟨h.own.kept hg hk, h.val, h.tl.kept hg hk, fun y hy => ⟨own_kept (h.dat y hy).1 hg hk, (h.dat y hy).2⟩, h.same, own_kept h.last hg hk⟩
theorem Kp.ext {w w' : World} {B : Nat} {a ha ba : Option Addr} {m c hc bn bc : Nat} {L : List Lk} {S : List (List UInt8 × Nat)} {BL : List Bt} {bl : List UInt8} (h : Kp w B a ha ba m c hc bn bc L S BL bl) (hx : Ext w w') : Kp w' B a ha ba m c hc bn bc L S BL bl :=
  ⟨h.own.ext hx, h.val, h.tl.ext hx, fun y hy => ⟨own_ext (h.dat y hy).1 hx, (h.dat y hy).2⟩, h.same, own_ext h.last hx⟩
theorem OwnLks.typed {w w' : World} {B B' n c : Nat} {a : Option Addr} {L : List Lk} {r : Option Nat} (h : OwnLks w B a n c L) (hg : w.grownBy w' r) (ho : OfType w B' 28 r) : OwnLks w' B a n c L :=
  ⟨h.len, own_typed h.own hg ho (by decide), fun y hy => ⟨own_typed (h.dat y hy).1 hg ho (by decide), (h.dat y hy).2⟩⟩
def KpRel (w : World) (g K : Nat) (q : Nat) (x hv b i : Value) (wr : World) : Prop :=
  ∃ (a ha ba : Option Addr) (m c hc bn bc k2 j : Nat) (L : List Lk) (S : List (List UInt8 × Nat)) (BL : List Bt) (bl : List UInt8), q = j ∧ i = .int .i64 j ∧ x = .slice a m c ∧ hv = .slice ha m hc ∧ b = .slice ba bn bc ∧
    Kp wr w.heap.size a ha ba m c hc bn bc L S BL bl ∧ bn + 30 * j ≤ 500 ∧ m + j ≤ 15 ∧ Tape wr g k2 ∧ k2 + 1000 * j ≤ K ∧ w.grownBy wr (some g)
theorem drC_ok {L : List Ln} {S : List (List UInt8 × Nat)} {f : Nat} (h : Val L S) (hl : L.length ≤ 256) (hf : f ≤ L.length) :
    ∃ S', drC L (f : Int) = (drF S f f (L.drop f), 0) ∧ Val (drF S f f (L.drop f)) S' ∧ S'.map Prod.fst = (S.map Prod.fst).drop f := by
  obtain ⟨S', h1, h2, h3⟩ := drF_val h (k := f) hf
  refine ⟨S', ?_, h1, ?_⟩
  · unfold drC
    rw [h.st hl, if_pos rfl, if_neg (by omega), Int.toNat_natCast]
  · refine List.ext_getElem? fun i => ?_
    rw [List.getElem?_map, List.getElem?_drop, List.getElem?_map]
    by_cases hi : i < S'.length
    · obtain ⟨y, hy⟩ : ∃ y, S'[i]? = some y := ⟨_, List.getElem?_eq_getElem hi⟩
      obtain ⟨d, hd, -⟩ := h3 i y hy
      rw [hy, hd]
      rfl
    · rw [List.getElem?_eq_none (by omega), List.getElem?_eq_none (by have := h.len; omega)]

set_option maxRecDepth 100000 in
set_option maxHeartbeats 8000000 in
theorem ChainKeeps_walk (a1 : Option Addr) (n1 c1 : Nat) (L1 : List Int) (w : World)
    (hl : Row w a1 n1 c1 1 (L1.map (Value.int .i64))) (hli : ∀ x ∈ L1, -9223372036854775808 ≤ x ∧ x ≤ 9223372036854775807) (ha1 : ∀ p, a1 = some p → 0 < n1 → p.block < w.heap.size) :
    Calls Try.prog 7 #[.slice a1 n1 c1] w (LawPost w) := by
  have ht : Tape (w.alloc (.cells #[.slice a1 n1 c1, .int .i64 0] 25)) w.heap.size 0 :=
    ⟨a1, n1, c1, L1, heap_alloc_new w _, hl.ext (Ext.alloc' _ _), ha1, hli⟩
  have hx1 : Ext w (w.alloc (.cells #[.slice a1 n1 c1, .int .i64 0] 25)) := Ext.alloc' _ _
  have HT := Lib.hid ht
  clear ht
  go_enter Try.func7, Try.ntmps7
  have t1 : True := trivial
  go_wp2_with (first
    | (go_at_call 18; have _t := t1; (with_reducible refine (Next_any w.heap.size 0 30 _ HT.out (by omega) (by omega)).mono ?_); rintro e w2 ⟨u, rfl, hu, ht2, hg2⟩; have hu' : u ≤ 29 := (by unfold Below1 at hu; omega); clear hu t1)
    | (go_at_call 23; (refine (TapeBytes_any w.heap.size (0 + 1) u 2 _ ht2 (by omega) (by omega) (by omega)).mono ?_); rintro e w3 ⟨a3, c3, l3, rfl, ho3, ht3, hg3⟩)
    | (go_at_call 18; (with_reducible refine (Next_any w.heap.size (0 + 1 + u) 16 _ ht3 (by omega) (by omega)).mono ?_); rintro e w4 ⟨kk, rfl, hkk, ht4, hg4⟩; have hkk' : kk ≤ 15 := (by unfold Below1 at hkk; omega); clear hkk)
    | fail)
  have hgw : w.heap.size < (w.alloc (.cells #[.slice a1 n1 c1, .int .i64 0] 25)).heap.size := HT.out.lt
  have HX1 := Lib.hid hx1
  generalize w.alloc (.cells #[.slice a1 n1 c1, .int .i64 0] 25) = w1 at hg2 hgw HX1
  have hg14 := grown_trans' (grown_trans' hg2 hg3) hg4
  have ho4 := own_kept (own_base ho3 hg2.size) hg4 hgw
  clear HT hx1 ho3 ht2 ht3 hg2 hg3 hg4
  go_loopg [4, 5, 6, 7] kk (KpRel w1 w.heap.size 20000)
  case atStart => exact ⟨none, none, a3, 0, 0, 0, u, c3, _, kk, [], [], [], l3, rfl, rfl, rfl, rfl, rfl, ⟨OwnLks.nil _ _, Val.nil, Tl.empty _ _ _, (fun y hy => by cases hy), rfl, ho4⟩, by omega, by omega, ht4, by omega, hg14⟩
  case round =>
    obtain ⟨a, ha, ba, m, c, hc, bn, bc, k2, j, L, S, BL, bl, hq, rfl, rfl, rfl, rfl, hK, hbn, hmj, ht5, hk5, hg5⟩ := hrel
    rename World => w5
    have HQ := Lib.hid hq
    have HK := Lib.hid hK
    have HG := Lib.hid hg5
    clear hq hK hg5 ht4 hg14 ho4
    by_cases hj : 0 < j
    rotate_left
    · have hd : decide (0 < j) = false := decide_eq_false hj
      have hLm : (L.map Lk.d).length = m := by rw [List.length_map, HK.out.own.len]
      have hSm : S.length = m := by rw [HK.out.val.len, hLm]
      have HST := Lib.hid (HK.out.val.st (by omega))
      have HX5 := Lib.hid (HX1.out.rd HG.out (Nat.le_refl _))
      have HL5 := Lib.hid HK.out.own.links
      have HR5 := Lib.hid HK.out.tl.row
      clear ht5 hk5 HG HQ hj
      go_wp2
      go_loopw [10] (UpRel w5 m) (fun i _ => m - (intOf i).toNat)
      case atStart => exact ⟨0, rfl, Nat.zero_le _, Below.refl _ _⟩
      case round =>
        obtain ⟨i, rfl, hi, hx⟩ := hrel
        rename World => w6
        by_cases him : i < m
        rotate_left
        · obtain rfl : i = m := by omega
          go_wp2_with (first
            | (go_at_call 15; (with_reducible refine (known27_any _).mono ?_); rintro e w7 ⟨rfl, hx7⟩; have hx67 := Ext.trans' hx hx7)
            | (go_at_call 28; (with_reducible refine (chCheck_any a i c L _ (HL5.out.ext hx67) (by omega) HST.out).mono ?_); rintro e w8 ⟨rfl, hx8⟩)
            | fail)
          go_ret
          exact ⟨rfl, (HX5.out.trans' hx67).trans' hx8⟩
        obtain ⟨y, hy⟩ : ∃ y, S[i]? = some y := ⟨_, List.getElem?_eq_getElem (by omega)⟩
        have hgv : getV S 0 m (i : Int) = (y.1, 0) := by
          unfold getV
          rw [if_neg (by simp), if_neg (by omega), Int.toNat_natCast, getD_of hy]
        obtain ⟨k7, hk7, hkl7⟩ := bt_of HK.out.same (ct := y.1) (dt := y.2) hy
        have hko := Bytes.of_own (HK.out.dat k7 (List.mem_of_getElem? hk7)).1
        rw [hkl7] at hko
        have HGV := Lib.hid hgv
        have HI := Lib.hid (show i64B (i : Int) from ⟨by omega, by omega⟩)
        have HK7 := Lib.hid hk7
        have HKO := Lib.hid (hko.ext hx)
        have HL6 := Lib.hid (HL5.out.ext hx)
        clear hy hgv hk7 hkl7 hko
        go_wp2_with (first
          | (go_at_call 19; (with_reducible refine (chGet_any a m c L (i : Int) _ HL6.out (by omega) HI.out HST.out HGV.out).mono ?_); rintro e w7 ⟨a7, n7, c7, rfl, ho7, hx7⟩; have hB7 := Bytes.of_own ho7; clear ho7)
          | fail)
        have R7 : ∀ w', Ext w7 w' → Row w' ha m hc 1 (BL.map Bt.v) := fun w' h => HR5.out.ext (hx.trans' (hx7.trans' h))
        have hB8 := HKO.out.ext hx7
        refine wp_region_e [] (.qs [0, 1, 2, 3, 4, 5, 6, 7, 8, 9, 10, 11] .nil) (by kernel_rfl) (by kernel_rfl) ?_
        iterate 4 ((refine wpY_q rfl rfl _ (fun w' hx' => by go_simp; try rfl) ?_; go_simp))
        refine wpY_conv rfl rfl (.tmp 80) rfl rfl (fun w' h => hB7.ext h) Try.underlying28 Try.underlying5 Try.underlying9 ?_
        iterate 2 ((refine wpY_q rfl rfl _ (fun w' hx' => by go_simp; try rfl) ?_; go_simp))
        refine wpY_ix rfl rfl (.tmp 82) (.tmp 83) rfl Try.elBs rfl R7 i rfl rfl him ?_
        intro b4 o4 hc4
        have hd4 : ∀ w', Ext w7 w' → w'.cell? ⟨b4, o4, none⟩ = some (.slice k7.a k7.n k7.c) := fun w' h => bt_cell HK7.out (fun j hj => hc4 j hj w' h)
        clear hc4
        refine wpY_q rfl rfl (.slice k7.a k7.n k7.c) (fun w' hx' => by have hb' := hd4 w' hx'; go_simp; try rfl) ?_
        go_simp
        refine wpY_conv rfl rfl (.tmp 85) rfl rfl (fun w' h => hB8.ext h) Try.underlying28 Try.underlying5 Try.underlying9 ?_
        iterate 2 ((refine wpY_q rfl rfl _ (fun w' hx' => by go_simp; try rfl) ?_; go_simp))
        refine wpY_nil ?_
        go_simp
        clear hd4
        go_wp2
        go_roundw
        case rel => exact ⟨i + 1, by go_num, by omega, (hx.trans' hx7).trans' (Ext.drew' w7)⟩
        case measure => simp [intOf]; omega
    have hd : decide (0 < j) = true := decide_eq_true hj
    have hLm : (L.map Lk.d).length = m := by rw [List.length_map, HK.out.own.len]
    have hSm : S.length = m := by rw [HK.out.val.len, hLm]
    go_wp2_with (first
      | (go_at_call 18; (with_reducible refine (Next_any w.heap.size k2 5 _ ht5 (by omega) (by omega)).mono ?_); rintro e w6 ⟨u6, rfl, hu6, ht6, hg6⟩; refine Stop.of ?_)
      | fail)
    have HK6 := Lib.hid (HK.out.kept hg6 hgw)
    have HG6 := Lib.hid (grown_trans' HG.out hg6)
    clear hu6 ht5 hg6 HK HG
    by_cases h0 : u6 = 0
    · subst h0
      refine Stop.out ?_
      go_wp2_with (first
        | (go_at_call 18; (with_reducible refine (Next_any w.heap.size (k2 + 1) ((m : Int) + 1) _ ht6 (by omega) (by omega)).mono ?_); rintro e w7 ⟨f, rfl, hf, ht7, hg7⟩; have hf' : f ≤ m := (by unfold Below1 at hf; omega); clear hf; refine Stop.of ?_)
        | fail)
      obtain ⟨S', hdr, hV', hS'⟩ := drC_ok (f := f) HK6.out.val (by omega) (by omega)
      have HDR := Lib.hid hdr
      have HV' := Lib.hid hV'
      have HS' := Lib.hid hS'
      have HK7 := Lib.hid (HK6.out.kept hg7 hgw)
      have HG7 := Lib.hid (grown_trans' HG6.out hg7)
      have hFm : (drF S f f ((L.map Lk.d).drop f)).length = m - f := by rw [drF_length, List.length_drop, hLm]
      clear hdr hV' hS' ht6 hg7 HK6 HG6
      refine Stop.out ?_
      go_wp2_with (first
        | (go_at_call 26; (with_reducible refine (chDrop_any a m c L (f : Int) _ HK7.out.own.links (by omega) (i64_of (by omega) (by omega)) HDR.out).mono ?_); rintro e w8 ⟨a8, n8, c8, L8, rfl, hO8, hD8, hx8⟩; have hn8 : n8 = m - f := (by rw [← hO8.len, ← List.length_map (f := Lk.d), hD8, hFm]); subst hn8; have HO8 := Lib.hid hO8; have HD8 := Lib.hid hD8; have HK8 := Lib.hid (HK7.out.ext hx8); clear hO8 hD8)
        | ((with_reducible refine atSlot 42 ?_); refine wpList_of_wp rfl (owp_sl_tl (o := ⟨some 42, _, _, _, _, _⟩) _ _ rfl Try.elBs rfl HK8.out.tl f rfl rfl hf' ?_); intro a9 hT9; have HT9 := Lib.hid hT9; clear hT9)
        | fail)
      go_roundg (j - 1)
      case measure => have := HQ.out; omega
      case rel =>
        have hs7 := HG7.out.size
        refine ⟨a8, a9, ba, m - f, c8, hc - f, bn, bc, _, j - 1, L8, S', BL.drop f, bl, rfl, by go_num, rfl, rfl, rfl, ⟨HO8.out.base hs7, by rw [HD8.out]; exact HV'.out, by rw [List.map_drop]; exact HT9.out, fun y hy => HK8.out.dat y (List.mem_of_mem_drop hy), by rw [List.map_drop, HS'.out, HK8.out.same], HK8.out.last⟩, by omega, by omega, ht7.ext hx8, by omega, grown_trans' HG7.out (grown_extS _ hx8)⟩
    · obtain ⟨q1, q2⟩ := neI (x := (u6 : Int)) (y := 0) (by omega)
      refine Stop.out ?_
      clear h0
      go_wp2_with (first
        | (go_at_call 12; (with_reducible refine (next27_any w.heap.size (k2 + 1) w1.heap.size ba bn bc bl _ ht6 (by omega) HK6.out.last hgw (by omega)).mono ?_); rintro e w8 ⟨a8, n8, c8, k8, l8, rfl, ho8, hn8, ht8, hk8, hg8⟩; refine Stop.of ?_)
        | fail)
      have hs6 := HG6.out.size
      have hs8 := hg8.size
      have HK8 := Lib.hid (HK6.out.kept hg8 hgw)
      have HG8 := Lib.hid (grown_trans' HG6.out hg8)
      have HO8 := Lib.hid (own_base ho8 hs6)
      have hl8 := own_len ho8
      have HAP := Lib.hid (apC_ok (L := L.map Lk.d) (b := l8) HK8.out.val (by omega) (by omega))
      obtain ⟨dd, hV⟩ := apL_val (b := l8) HK8.out.val (by omega)
      have HV := Lib.hid hV
      clear ho8 hg8 ht6 HK6 HG6 hV
      refine Stop.out ?_
      go_wp2_with (first
        | (go_at_call 13; (with_reducible refine (chAppend_any a m c L a8 n8 c8 l8 _ HK8.out.own.links (Bytes.of_own HO8.out) (by omega) (by omega) HAP.out).mono ?_); rintro e w9 ⟨a9, n9, c9, L9, rfl, hO9, hD9, hx9⟩; have hn9 : n9 = m + 1 := (by rw [← hO9.len, ← List.length_map (f := Lk.d), hD9, List.length_append, hLm]; rfl); subst hn9; have HO9 := Lib.hid (hO9.base (by omega : w1.heap.size ≤ w8.heap.size)); have HD9 := Lib.hid hD9; have hx10 := hx9.trans' (Ext.alloc' w9 (.cells #[.slice a8 n8 c8] 28)); have HK10 := Lib.hid (HK8.out.ext hx10); have hs10 := hx10.size; clear hO9 hD9)
        | ((with_reducible refine atSlot 55 ?_); refine wpList_of_wp rfl (owp_app_tl (o := ⟨some 55, _, _, _, _, _⟩) _ _ rfl Try.elBs rfl HK10.out.tl rfl (Row.new w9 #[.slice a8 n8 c8] 28 1 1 rfl (by decide)) (bt_oneCell [⟨a8, n8, c8, l8⟩]) (by decide) (by omega) (by unfold maxLen; omega) (by omega) ?_); intro a11 c11 w11 r hT11 hg11 hr11; refine Stop.of ?_)
        | fail)
      have ho10 := own_ext HO8.out hx10
      have HT11 := Lib.hid hT11
      have HO11 := Lib.hid ((HO9.out.ext (Ext.alloc' w9 (.cells #[.slice a8 n8 c8] 28))).typed hg11 hr11)
      have hb11 := own_typed ho10 hg11 hr11 (by decide)
      have HDT := Lib.hid (fun (y : Bt) (hy : y ∈ BL) => (⟨own_typed (HK10.out.dat y hy).1 hg11 hr11 (by decide), (HK10.out.dat y hy).2⟩ : w11.ownsRow w1.heap.size 5 1 (.slice y.a y.n y.c) y.n (y.l.map Proofs.Ytkhjeeaojlaagaa.u8) ∧ y.n ≤ 140737488355328))
      have hgF := chg_trans (grown_trans' HG8.out (grown_extS _ hx10)) hg11 (fun b hb => .inl (hr11 b hb).1)
      have htF := (ht8.ext hx10).grown hg11 (fun b hb => by have := (hr11 b hb).1; omega)
      refine Stop.out ?_
      clear hT11 hg11 hr11 ho10 ht8 HK10
      go_wp2
      go_roundg (j - 1)
      case measure => have := HQ.out; omega
      case rel =>
        refine ⟨a9, a11, a8, m + 1, c9, c11, n8, c8, _, j - 1, L9, S ++ [(l8, dd)], BL ++ [⟨a8, n8, c8, l8⟩], l8, rfl, by go_num, rfl, rfl, rfl, ⟨HO11.out, by rw [HD9.out]; exact HV.out, by rw [List.map_append]; exact HT11.out, fun y hy => ?_, by rw [List.map_append, List.map_append, HK8.out.same]; rfl, hb11⟩, by omega, by omega, htF, by omega, hgF⟩
        rcases List.mem_append.1 hy with hy | hy
        · exact HDT.out y hy
        · obtain rfl : y = ⟨a8, n8, c8, l8⟩ := by simpa using hy
          exact ⟨hb11, by show n8 ≤ _; omega⟩
end Go.Proofs.Ytkhjeeaojlaagaa
