/-
  Distinct and Short: each answers a truth value.
-/
import Derived.Test.YtpiodpljiklfkaaRefL
namespace Go.Proofs.Ytpiodpljiklfkaa
open Go.RowKit
def SomeB (w : World) (en : Ending) (w' : World) : Prop := ∃ b : Bool, en = .returned (.bool b) ∧ Ext w w'
def DiRel (w : World) (n : Nat) (ids i : Value) (wr : World) : Prop :=
  ∃ (j ic : Nat) (ia : Option Addr) (K : List (Nat × Int)), i = .int .i64 j ∧ j ≤ n ∧ ids = .slice ia j ic ∧ K.length = j ∧ wr.ownsRow w.heap.size 45 2 (.slice ia j ic) j (K.flatMap idCells) ∧ Ext w wr
def DkRel (w : World) (n : Nat) (i : Value) (wr : World) : Prop := ∃ j : Nat, i = .int .i64 j ∧ j ≤ n ∧ Ext w wr

set_option maxRecDepth 100000 in
set_option maxHeartbeats 4000000 in
theorem Distinct_any (a : Option Addr) (n c : Nat) (L : List Bt) (w : World) (h : Bts w a n c L) (hn : n ≤ 1000) :
    Calls Try.prog 42 #[.slice a n c] w (SomeB w) := by
  have HH := Lib.hid h
  clear h
  go_enter Try.func42, Try.ntmps42
  go_wp2
  go_loopw [3, 4] (DiRel w n) (fun _ i _ => n - (intOf i).toNat)
  case atStart => exact ⟨0, 0, none, [], rfl, Nat.zero_le _, rfl, rfl, own_nil _ _ _ _, Below.refl _ _⟩
  case round =>
    obtain ⟨j, ic, ia, K, rfl, hj, rfl, hKl, ho, hx⟩ := hrel
    rename World => w3
    have HKL := Lib.hid hKl
    have HO := Lib.hid ho
    have HX := Lib.hid (show Ext w w3 from hx)
    clear hKl ho hx
    by_cases hjn : j < n
    · obtain ⟨y, hy, -⟩ := HH.out.get hjn
      have hyI := (HH.out.ext HX.out).2.2 y (List.mem_of_getElem? hy)
      have hyl := hyI.1.len
      have HY := Lib.hid hy
      have hrb := (HH.out.ext HX.out).2.1
      have HOF := Lib.hid (refOf_any y.a y.n y.c y.l w3 hyI.1 hyI.2)
      clear hy hyI
      go_upto_region 6 with (first
        | ((with_reducible refine atSlot 15 ?_); refine wpList_of_wp rfl (owp_ix (o := ⟨some 15, _, _, _, _, _⟩) _ _ rfl Try.elBs rfl hrb j rfl rfl hjn ?_); intro b3 o3 hc3; have hd3 := bt_cell HY.out hc3; clear hc3)
        | (go_at_call 61; (with_reducible refine HOF.out.mono ?_); rintro en w4 ⟨rfl, hx4⟩; have hal := Lib.hid (Ext.alloc' w4 (.cells #[.int .u64 (fp y.l : Nat), .int .i64 y.n] 45)); have HO5 := Lib.hid (own_ext HO.out (hx4.trans' hal.out)); have HX5 := Lib.hid (show Ext w _ from HX.out.trans' (hx4.trans' hal.out)); clear hx4)
        | ((with_reducible refine atSlot 19 ?_); refine wpList_of_wp rfl (owp_app (o := ⟨some 19, _, _, _, _, _⟩) _ _ rfl Try.elId rfl HO5.out rfl (Row.new w4 #[.int .u64 (fp y.l : Nat), .int .i64 y.n] 45 1 2 rfl (by decide)) (id_one [(fp y.l, (y.n : Int))]) (by omega) (by unfold maxLen; omega) HX5.out.size ?_); intro a6 c6 w6 ho6 hg6)
        | fail)
      have hx6 : Ext w w6 := below_app HX5.out HO5.out hg6 HX5.out.size
      obtain ⟨K2, hK2⟩ : ∃ K2, K2 = K ++ [(fp y.l, (y.n : Int))] := ⟨_, rfl⟩
      have HO6 := Lib.hid (show w6.ownsRow w.heap.size 45 2 (.slice a6 (j + 1) c6) (j + 1) (K2.flatMap idCells) by rw [hK2, List.flatMap_append]; exact ho6)
      have HX6 := Lib.hid hx6
      have HK2 := Lib.hid (show K2.length = j + 1 by rw [hK2, List.length_append, HKL.out]; rfl)
      clear ho6 hg6 hx6 hK2
      go_wp2
      go_loopw [5] (DkRel w6 j) (fun i _ => j - (intOf i).toNat)
      case atStart => exact ⟨0, rfl, Nat.zero_le _, Below.refl _ _⟩
      case round =>
        obtain ⟨k, rfl, hk, hx⟩ := hrel
        rename World => w7
        have HX7 := Lib.hid (show Ext w6 w7 from hx)
        have HXW := Lib.hid (HX6.out.trans' HX7.out)
        clear hx
        by_cases hkj : k < j
        · obtain ⟨p, hp⟩ : ∃ p, K2[j]? = some p := ⟨_, List.getElem?_eq_getElem (by have := HK2.out; omega)⟩
          obtain ⟨q, hq⟩ : ∃ q, K2[k]? = some q := ⟨_, List.getElem?_eq_getElem (by have := HK2.out; omega)⟩
          obtain ⟨z, hz, -⟩ := HH.out.get (i := k) (by omega)
          have HP := Lib.hid hp
          have HQ := Lib.hid hq
          have HZ := Lib.hid hz
          have HR := Lib.hid fun w' (h : Ext w7 w') => (Row.of_own HO6.out).ext (HX7.out.trans' h)
          have HB := Lib.hid fun w' (h : Ext w7 w') => (HH.out.ext (HXW.out.trans' h)).2.1
          have HYB := Lib.hid fun w' (h : Ext w7 w') => ((HH.out.ext (HXW.out.trans' h)).2.2 y (List.mem_of_getElem? HY.out)).1
          have HZB := Lib.hid fun w' (h : Ext w7 w') => ((HH.out.ext (HXW.out.trans' h)).2.2 z (List.mem_of_getElem? HZ.out)).1
          have E7 := Ext.drew' w7
          clear hp hq hz
          by_cases he : (p.1, p.2) = (q.1, q.2)
          rotate_left
          · rcases id_cmp he with h3 | ⟨h3, h4⟩
            · clear he
              go_upto_region 9 with fail
              refine wp_region_e [] (.qs [0, 1, 2, 3, 4, 5, 6, 7, 8, 9, 10, 11, 12, 13, 14, 15, 16, 17, 18, 19, 20, 21] .nil) (by kernel_rfl) (by kernel_rfl) ?_
              iterate 2 ((refine wpY_q rfl rfl _ (fun w' hx' => by go_simp; try rfl) ?_; go_simp))
              refine wpY_ix rfl rfl (.tmp 25) (.tmp 26) rfl Try.elId rfl HR.out j rfl rfl (by omega) ?_
              intro b3 o3 hc3
              have HC3 := Lib.hid hc3
              clear hc3
              refine wpY_ld rfl rfl (.tmp 27) rfl b3 o3 rfl [.int .u64 p.1, .int .i64 p.2] _ (fun w' h => id_range HP.out (fun q hq => HC3.out q hq w' h)) Try.underlying45 rfl (by kernel_rfl) ?_
              iterate 2 ((refine wpY_q rfl rfl _ (fun w' hx' => by go_simp; try rfl) ?_; go_simp))
              refine wpY_ix rfl rfl (.tmp 29) (.tmp 30) rfl Try.elId rfl HR.out k rfl rfl (by omega) ?_
              intro b4 o4 hc4
              have HC4 := Lib.hid hc4
              clear hc4
              refine wpY_ld rfl rfl (.tmp 31) rfl b4 o4 rfl [.int .u64 q.1, .int .i64 q.2] _ (fun w' h => id_range HQ.out (fun q hq => HC4.out q hq w' h)) Try.underlying45 rfl (by kernel_rfl) ?_
              iterate 14 (first | ((refine wpY_q rfl rfl _ (fun w' hx' => by go_simp; try rfl) ?_; go_simp)) | ((refine wpY_skip rfl rfl ?_; go_simp)))
              refine wpY_nil ?_
              have HXE := Lib.hid (HX7.out.trans' E7)
              clear E7
              go_wp2
              go_roundw
              case rel => exact ⟨k + 1, by go_num, hkj, HXE.out⟩
              case measure => simp [intOf]; omega
            · clear he
              go_upto_region 9 with fail
              refine wp_region_e [] (.qs [0, 1, 2, 3, 4, 5, 6, 7, 8, 9, 10, 11, 12, 13, 14, 15, 16, 17, 18, 19, 20, 21] .nil) (by kernel_rfl) (by kernel_rfl) ?_
              iterate 2 ((refine wpY_q rfl rfl _ (fun w' hx' => by go_simp; try rfl) ?_; go_simp))
              refine wpY_ix rfl rfl (.tmp 25) (.tmp 26) rfl Try.elId rfl HR.out j rfl rfl (by omega) ?_
              intro b3 o3 hc3
              have HC3 := Lib.hid hc3
              clear hc3
              refine wpY_ld rfl rfl (.tmp 27) rfl b3 o3 rfl [.int .u64 p.1, .int .i64 p.2] _ (fun w' h => id_range HP.out (fun q hq => HC3.out q hq w' h)) Try.underlying45 rfl (by kernel_rfl) ?_
              iterate 2 ((refine wpY_q rfl rfl _ (fun w' hx' => by go_simp; try rfl) ?_; go_simp))
              refine wpY_ix rfl rfl (.tmp 29) (.tmp 30) rfl Try.elId rfl HR.out k rfl rfl (by omega) ?_
              intro b4 o4 hc4
              have HC4 := Lib.hid hc4
              clear hc4
              refine wpY_ld rfl rfl (.tmp 31) rfl b4 o4 rfl [.int .u64 q.1, .int .i64 q.2] _ (fun w' h => id_range HQ.out (fun q hq => HC4.out q hq w' h)) Try.underlying45 rfl (by kernel_rfl) ?_
              iterate 14 (first | ((refine wpY_q rfl rfl _ (fun w' hx' => by go_simp; try rfl) ?_; go_simp)) | ((refine wpY_skip rfl rfl ?_; go_simp)))
              refine wpY_nil ?_
              have HXE := Lib.hid (HX7.out.trans' E7)
              clear E7
              go_wp2
              go_roundw
              case rel => exact ⟨k + 1, by go_num, hkj, HXE.out⟩
              case measure => simp [intOf]; omega
          have h3 : ((p.1 : Int) == (q.1 : Int)) = true := by have h := congrArg Prod.fst he; simp only at h; simp [h]
          have h4 : (p.2 == q.2) = true := by have h := congrArg Prod.snd he; simp only at h; simp [h]
          clear he
          go_upto_region 9 with fail
          refine wp_region_e [] (.qs [0, 1, 2, 3, 4, 5, 6, 7, 8, 9, 10, 11, 12, 13, 14, 15, 16, 17, 18, 19, 20, 21] .nil) (by kernel_rfl) (by kernel_rfl) ?_
          iterate 2 ((refine wpY_q rfl rfl _ (fun w' hx' => by go_simp; try rfl) ?_; go_simp))
          refine wpY_ix rfl rfl (.tmp 25) (.tmp 26) rfl Try.elId rfl HR.out j rfl rfl (by omega) ?_
          intro b3 o3 hc3
          have HC3 := Lib.hid hc3
          clear hc3
          refine wpY_ld rfl rfl (.tmp 27) rfl b3 o3 rfl [.int .u64 p.1, .int .i64 p.2] _ (fun w' h => id_range HP.out (fun q hq => HC3.out q hq w' h)) Try.underlying45 rfl (by kernel_rfl) ?_
          iterate 2 ((refine wpY_q rfl rfl _ (fun w' hx' => by go_simp; try rfl) ?_; go_simp))
          refine wpY_ix rfl rfl (.tmp 29) (.tmp 30) rfl Try.elId rfl HR.out k rfl rfl (by omega) ?_
          intro b4 o4 hc4
          have HC4 := Lib.hid hc4
          clear hc4
          refine wpY_ld rfl rfl (.tmp 31) rfl b4 o4 rfl [.int .u64 q.1, .int .i64 q.2] _ (fun w' h => id_range HQ.out (fun q hq => HC4.out q hq w' h)) Try.underlying45 rfl (by kernel_rfl) ?_
          iterate 4 ((refine wpY_q rfl rfl _ (fun w' hx' => by go_simp; try rfl) ?_; go_simp))
          refine wpY_ix rfl rfl (.tmp 35) (.tmp 36) rfl Try.elBs rfl HB.out j rfl rfl hjn ?_
          intro b5 o5 hc5
          have HC5 := Lib.hid hc5
          clear hc5
          refine wpY_q rfl rfl (.slice y.a y.n y.c) (fun w' hx' => by have hb' := bt_cell HY.out (fun i hi => HC5.out i hi w' hx'); go_simp; try rfl) ?_
          go_simp
          refine wpY_conv rfl rfl (.tmp 38) rfl rfl HYB.out Try.underlying42 Try.underlying5 Try.underlying9 ?_
          iterate 2 ((refine wpY_q rfl rfl _ (fun w' hx' => by go_simp; try rfl) ?_; go_simp))
          refine wpY_ix rfl rfl (.tmp 40) (.tmp 41) rfl Try.elBs rfl HB.out k rfl rfl (by omega) ?_
          intro b6 o6 hc6
          have HC6 := Lib.hid hc6
          clear hc6
          refine wpY_q rfl rfl (.slice z.a z.n z.c) (fun w' hx' => by have hb' := bt_cell HZ.out (fun i hi => HC6.out i hi w' hx'); go_simp; try rfl) ?_
          go_simp
          refine wpY_conv rfl rfl (.tmp 43) rfl rfl HZB.out Try.underlying42 Try.underlying5 Try.underlying9 ?_
          refine wpY_q rfl rfl (.bool (!(y.l == z.l))) (fun w' hx' => by go_simp; try rfl) ?_
          generalize (!(y.l == z.l)) = bb
          go_simp
          ((refine wpY_q rfl rfl _ (fun w' hx' => by go_simp; try rfl) ?_; go_simp))
          refine wpY_nil ?_
          have HXE := Lib.hid (HX7.out.trans' E7)
          clear E7 h3 h4
          cases bb with
          | true =>
            go_wp2
            go_ret
            exact ⟨false, rfl, HX6.out.trans' HXE.out⟩
          | false =>
            go_wp2
            go_roundw
            case rel => exact ⟨k + 1, by go_num, hkj, HXE.out⟩
            case measure => simp [intOf]; omega
        · obtain rfl : k = j := by omega
          clear hk hkj
          go_wp2
          go_roundw
          case rel => exact ⟨k + 1, c6, a6, K2, by go_num, hjn, rfl, HK2.out, own_ext HO6.out HX7.out, HXW.out⟩
          case measure => simp [intOf]; omega
    · obtain rfl : j = n := by omega
      clear hj hjn
      go_wp2
      go_ret
      exact ⟨true, rfl, HX.out⟩
/-- Some byte. -/
theorem some_u8 (x : Int) : ∃ y : UInt8, Value.int .u8 (x % 256) = u8 y := by
  obtain ⟨n, hn, hlt⟩ : ∃ n : Nat, x % 256 = (n : Int) ∧ n < 256 := ⟨(x % 256).toNat, by omega, by omega⟩
  refine ⟨UInt8.ofNat n, ?_⟩
  rw [hn]
  show Value.int .u8 _ = Value.int .u8 _
  congr 1
  rw [UInt8.toNat_ofNat_of_lt' (by show n < 256; omega)]
def S1Rel (w : World) (all i : Value) (wr : World) : Prop :=
  ∃ (j m c : Nat) (a : Option Addr) (L : List Bt), i = .int .i64 j ∧ 1 ≤ j ∧ j ≤ 5 ∧ all = .slice a m c ∧ m + 2 = 2 ^ j ∧ OwnBts wr w.heap.size a m c L ∧ Ext w wr
def S2Rel (w : World) (P : Nat) (all i : Value) (wr : World) : Prop :=
  ∃ (v m c : Nat) (a : Option Addr) (L : List Bt), i = .int .i64 v ∧ v ≤ P ∧ all = .slice a m c ∧ m + 2 = P + v ∧ OwnBts wr w.heap.size a m c L ∧ Ext w wr
def S3Rel (w5 : World) (j : Nat) (b i : Value) (wr : World) : Prop :=
  ∃ (t bc : Nat) (ba : Option Addr) (l : List UInt8), i = .int .i64 t ∧ t ≤ j ∧ b = .slice ba t bc ∧ wr.ownsRow w5.heap.size 5 1 (.slice ba t bc) t (l.map u8) ∧ Ext w5 wr

set_option maxRecDepth 100000 in
set_option maxHeartbeats 4000000 in
theorem Short_any (w : World) : Calls Try.prog 28 #[] w (SomeB w) := by
  go_enter Try.func28, Try.ntmps28
  go_wp2
  go_loopw [1, 2] (S1Rel w) (fun _ i _ => 5 - (intOf i).toNat)
  case atStart => exact ⟨1, 0, 0, none, [], rfl, by omega, by omega, rfl, rfl, OwnBts.nil _ _, Below.refl _ _⟩
  case round =>
    obtain ⟨j, m, c, a, L, rfl, hj1, hj5, rfl, hm, hO, hx⟩ := hrel
    rename World => w3
    have HO := Lib.hid hO
    have HM := Lib.hid hm
    have HX := Lib.hid (show Ext w w3 from hx)
    clear hO hx hm
    by_cases hj : j ≤ 4
    · obtain ⟨P, hP⟩ : ∃ P, P = 2 ^ j := ⟨_, rfl⟩
      have hsh : wrap64 ((2 : Int) ^ j) = (P : Int) := by
        rw [hP]
        rcases (by omega : j = 1 ∨ j = 2 ∨ j = 3 ∨ j = 4) with rfl | rfl | rfl | rfl <;> (first | decide | simp [wrap64])
      have hP16 : P ≤ 16 := by
        rw [hP]
        rcases (by omega : j = 1 ∨ j = 2 ∨ j = 3 ∨ j = 4) with rfl | rfl | rfl | rfl <;> decide
      have hd4 : decide ((j : Int) ≤ 4) = true := decide_eq_true (by omega)
      have HPE := Lib.hid hP
      have hP1 : 1 ≤ P := by rw [hP]; exact Nat.one_le_two_pow
      clear hP
      go_wp2
      go_loopw [1, 3] (S2Rel w P) (fun _ i _ => P - (intOf i).toNat)
      case atStart => exact ⟨0, m, c, a, L, rfl, Nat.zero_le _, rfl, by have h1 := HM.out; have h2 := HPE.out; omega, HO.out, HX.out⟩
      case round =>
        obtain ⟨v, m2, c2, a2, L2, rfl, hv, rfl, hm2, hO2, hx2⟩ := hrel
        rename World => w5
        have HO2 := Lib.hid hO2
        have HM2 := Lib.hid hm2
        have HX2 := Lib.hid (show Ext w w5 from hx2)
        have hm30 : m2 ≤ 30 := by omega
        clear hO2 hx2 hm2
        by_cases hvP : v < P
        · go_upto_region 8 with fail
          rw [hsh]
          go_wp2
          go_loopw [4, 5] (S3Rel w5 j) (fun _ i _ => j - (intOf i).toNat)
          case atStart => exact ⟨0, 0, none, [], rfl, Nat.zero_le _, rfl, own_nil _ _ _ _, Below.refl _ _⟩
          case round =>
            obtain ⟨t, bc, ba, l, rfl, ht, rfl, ho, hx⟩ := hrel
            rename World => w6
            have HB := Lib.hid ho
            have HX6 := Lib.hid (show Ext w5 w6 from hx)
            clear ho hx
            by_cases htj : t < j
            · obtain ⟨y8, hy8⟩ := some_u8 (bits .and .i64 ((v : Int) / 2 ^ t) 1)
              have HY8 := Lib.hid hy8
              have hal := Ext.alloc' w6 (.cells #[Proofs.Ytpiodpljiklfkaa.u8 y8] 5)
              have HBA := Lib.hid (own_ext HB.out hal)
              have hzA : w5.heap.size ≤ (w6.alloc (.cells #[Proofs.Ytpiodpljiklfkaa.u8 y8] 5)).heap.size := (HX6.out.trans' hal).size
              have hXA : Ext w5 (w6.alloc (.cells #[Proofs.Ytpiodpljiklfkaa.u8 y8] 5)) := HX6.out.trans' hal
              have HXA := Lib.hid hXA
              clear hy8 hal hXA
              go_wp2_with (first
                | ((with_reducible refine atSlot 28 ?_); refine Stop.of ?_)
                | fail)
              rw [HY8.out]
              refine Stop.out ?_
              go_wp2_with (first
                | ((with_reducible refine atSlot 28 ?_); refine wpList_of_wp rfl (owp_app (o := ⟨some 28, _, _, _, _, _⟩) _ _ rfl Try.elB rfl HBA.out rfl (Row.one w6 (Proofs.Ytpiodpljiklfkaa.u8 y8) 5) (u8_oneCell [y8]) (by omega) (by unfold maxLen; omega) hzA ?_); intro a7 c7 w7 ho7 hg7)
                | fail)
              have hx7 : Ext w5 w7 := below_app HXA.out HBA.out hg7 hzA
              have HREL := Lib.hid (show w7.ownsRow w5.heap.size 5 1 (.slice a7 (t + 1) c7) (t + 1) ((l ++ [y8]).map Proofs.Ytpiodpljiklfkaa.u8) ∧ Ext w5 w7 from ⟨by rw [List.map_append]; exact ho7, hx7⟩)
              clear ho7 hg7 hx7 hzA
              go_roundw
              case rel => exact ⟨t + 1, c7, a7, _, by go_num, htj, rfl, HREL.out⟩
              case measure => simp [intOf]; omega
            · obtain rfl : t = j := by omega
              have HO6 := Lib.hid (HO2.out.ext HX6.out)
              have HXW := Lib.hid (HX2.out.trans' HX6.out)
              have hal := Ext.alloc' w6 (.cells #[.slice ba t bc] 42)
              have HO7 := Lib.hid (HO6.out.ext hal)
              have HY7 := Lib.hid (own_ext (own_base HB.out HX2.out.size) hal)
              have hz7 : w.heap.size ≤ (w6.alloc (.cells #[.slice ba t bc] 42)).heap.size := (HXW.out.trans' hal).size
              have hX7 : Ext w (w6.alloc (.cells #[.slice ba t bc] 42)) := HXW.out.trans' hal
              have HX7 := Lib.hid hX7
              clear ht htj hal hX7
              go_wp2_with (first
                | ((with_reducible refine atSlot 32 ?_); refine wpList_of_wp rfl (owp_app (o := ⟨some 32, _, _, _, _, _⟩) _ _ rfl Try.elBs rfl HO7.out.own rfl (Row.one w6 (.slice ba t bc) 42) (fun q hq => bt_oneCell [⟨ba, t, bc, []⟩] q (by simpa [Bt.v] using hq)) (by omega) (by unfold maxLen; omega) hz7 ?_); intro a8 c8 w8 ho8 hg8)
                | fail)
              have hO8 := HO7.out.push (y := ⟨ba, t, bc, l⟩) hg8 ho8 HY7.out (by show t ≤ _; omega)
              have hx8 : Ext w w8 := below_app HX7.out HO7.out.own hg8 hz7
              have HO8 := Lib.hid hO8
              have HX8 := Lib.hid hx8
              clear hO8 hx8 ho8 hg8 hz7
              go_roundw
              case rel => exact ⟨v + 1, m2 + 1, c8, a8, _, by go_num, hvP, rfl, by have := HM2.out; omega, HO8.out, HX8.out⟩
              case measure => simp [intOf]; omega
        · obtain rfl : v = P := by omega
          have hm3 : m2 + 2 = 2 ^ (j + 1) := by have h1 := HM2.out; have h2 := HPE.out; rw [Nat.pow_succ]; omega
          have HM3 := Lib.hid hm3
          clear hv hvP hm3
          go_wp2
          go_roundw
          case rel => exact ⟨j + 1, m2, c2, a2, L2, by go_num, by omega, by omega, rfl, HM3.out, HO2.out, HX2.out⟩
          case measure => simp [intOf]; omega
    · obtain rfl : j = 5 := by omega
      have HDI := Lib.hid (Distinct_any a m c L w3 HO.out.bts (by have := HM.out; omega))
      clear hj hj1 hj5
      go_wp2_with (first
        | (go_at_call 42; (with_reducible refine HDI.out.mono ?_); rintro en w4 ⟨b, rfl, hx4⟩; have HX4 := Lib.hid (HX.out.trans' hx4); clear hx4)
        | fail)
      go_ret
      exact ⟨b, rfl, HX4.out⟩
end Go.Proofs.Ytpiodpljiklfkaa
