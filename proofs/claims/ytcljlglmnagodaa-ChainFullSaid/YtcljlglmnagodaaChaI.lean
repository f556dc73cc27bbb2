/-
  Chains: Drop.
-/
import Derived.Test.YtcljlglmnagodaaChaF
import Derived.Deep.CutRange
namespace Go.Proofs.Ytcljlglmnagodaa
open Go.RowKit

theorem lk_set_all {y : Lk} : ∀ {L : List Lk} {i : Nat}, i < L.length → (L.flatMap Lk.cells).take (i * 2) ++ y.cells ++ (L.flatMap Lk.cells).drop (i * 2 + 2) = (L.set i y).flatMap Lk.cells
  | [], _, h => by simp at h
  | x :: L, 0, _ => by
    rw [List.flatMap_cons, Nat.zero_mul, Nat.zero_add, List.take_zero, List.nil_append, List.set_cons_zero, List.flatMap_cons, List.drop_append, List.drop_of_length_le (show x.cells.length ≤ 2 from Nat.le_refl _), List.nil_append, show x.cells.length = 2 from rfl]
    rfl
  | x :: L, i + 1, h => by
    have hc : x.cells.length = 2 := rfl
    rw [List.flatMap_cons, List.set_cons_succ, List.flatMap_cons, ← lk_set_all (by simpa using h), List.take_append, List.drop_append, List.take_of_length_le (by omega), List.drop_of_length_le (by omega), hc, List.nil_append,
      show (i + 1) * 2 - 2 = i * 2 by omega, show (i + 1) * 2 + 2 - 2 = i * 2 + 2 by omega]
    simp
theorem OwnLks.data {w w' : World} {B n c A : Nat} {L : List Lk} (h : OwnLks w B (some ⟨A, 0, none⟩) n c L) (hg : w.grownBy w' (some A)) {n1 c1 : Nat} {a1 : Option Addr} {xs : List Value} (h1 : w.ownsRow B 5 1 (.slice a1 n1 c1) n1 xs) : w'.ownsRow B 5 1 (.slice a1 n1 c1) n1 xs := by
  obtain ⟨cur, hcur⟩ := own_heap h.own (b := A) rfl
  exact own_other h1 hg (fun e => own_apart h1 hcur (by decide) e.symm)
theorem OwnLks.set {w : World} {B n c A i : Nat} {L : List Lk} {y : Lk} (h : OwnLks w B (some ⟨A, 0, none⟩) n c L) (hi : i < n) (hd : w.ownsRow B 5 1 (.slice y.a y.n y.c) y.n (y.l.map u8) ∧ y.n ≤ 140737488355328 ∧ i64B y.b) :
    OwnLks (w.setCells A (i * 2) y.cells) B (some ⟨A, 0, none⟩) n c (L.set i y) where
  len := by rw [List.length_set]; exact h.len
  own := by
    rw [← lk_set_all (by rw [h.len]; exact hi)]
    exact own_setCells y.cells (i * 2) w _ h.own (by show i * 2 + 2 ≤ n * 2; omega)
  dat x hx := by
    have hg := grown_setCells A y.cells (i * 2) w
    rcases List.mem_or_eq_of_mem_set hx with hx | rfl
    · exact ⟨h.data hg (h.dat x hx).1, (h.dat x hx).2⟩
    · exact ⟨h.data hg hd.1, hd.2⟩
theorem OwnLks.set1 {w : World} {B n c A i j : Nat} {L : List Lk} {x y : Lk} {v : Value} (h : OwnLks w B (some ⟨A, 0, none⟩) n c L) (hx : L[i]? = some x) (hj : j < 2) (hy : y.cells = x.cells.set j v) (hd : w.ownsRow B 5 1 (.slice y.a y.n y.c) y.n (y.l.map u8) ∧ y.n ≤ 140737488355328 ∧ i64B y.b) :
    OwnLks (w.setCell ⟨A, i * 2 + j, none⟩ v) B (some ⟨A, 0, none⟩) n c (L.set i y) where
  len := by rw [List.length_set]; exact h.len
  own := by
    have hi : i < n := by rw [← h.len]; exact (List.getElem?_eq_some_iff.1 hx).1
    rw [← lk_set_one hx hj hy]
    exact own_setCell h.own (by omega)
  dat z hz := by
    have hg := grown_setCell' w A (i * 2 + j) v
    rcases List.mem_or_eq_of_mem_set hz with hz | rfl
    · exact ⟨h.data hg (h.dat z hz).1, (h.dat z hz).2⟩
    · exact ⟨h.data hg hd.1, hd.2⟩
/-- Kept so far: the first j links are as Drop leaves them, the others as they were. -/
def DrRel (w : World) (S : List (List UInt8 × Nat)) (L : List Ln) (k m : Nat) (a : Option Addr) (c : Nat) (i : Value) (wr : World) : Prop :=
  ∃ (j : Nat) (LL : List Lk), i = .int .i64 j ∧ j ≤ m ∧ OwnLks wr w.heap.size a m c LL ∧ (∀ i y, i < j → LL[i]? = some y → ∃ x, L[k + i]? = some x ∧ y.d = drL S k (k + i) x) ∧ (∀ i y, j ≤ i → LL[i]? = some y → L[k + i]? = some y.d) ∧ Ext w wr

set_option maxRecDepth 100000 in
set_option maxHeartbeats 8000000 in
theorem chDrop_any (a : Option Addr) (n c : Nat) (L : List Lk) (first : Int) (w : World) (hL : Links w a n c L) (hn : n ≤ 140737488355328) (hf : i64B first) {LR : List Ln} {er : Int} (hr : drC (L.map Lk.d) first = (LR, er)) :
    Calls Try.prog 64 #[.slice a n c, .int .i64 first] w (LkR w LR er) := by
  obtain ⟨S, e0, hst⟩ : ∃ S e0, stC (L.map Lk.d) = (S, e0) := ⟨_, _, rfl⟩
  have HM := Lib.hid (chCheck_any a n c L w hL hn hst)
  have HLN := Lib.hid hL.1
  have hf' : -9223372036854775808 ≤ first ∧ first ≤ 9223372036854775807 := hf
  unfold drC at hr
  rw [hst] at hr
  simp only at hr
  rw [List.length_map, hL.1] at hr
  by_cases he : e0 = 0
  rotate_left
  · rw [if_neg he] at hr
    cases hr
    obtain ⟨q1, q2⟩ := neI he
    clear he
    go_enter Try.func64, Try.ntmps64
    go_wp2_with (first
      | (go_at_call 66; (with_reducible refine HM.out.mono ?_); rintro e w2 ⟨rfl, hx2⟩)
      | fail)
    go_ret2
    exact ⟨none, 0, 0, [], rfl, OwnLks.nil _ _, rfl, hx2⟩
  subst he
  rw [if_pos rfl] at hr
  by_cases hlt : first < 0
  · rw [if_pos (.inl hlt)] at hr
    cases hr
    have hd : decide (first < 0) = true := decide_eq_true hlt
    go_enter Try.func64, Try.ntmps64
    go_wp2_with (first
      | (go_at_call 66; (with_reducible refine HM.out.mono ?_); rintro e w2 ⟨rfl, hx2⟩)
      | fail)
    go_ret2
    exact ⟨none, 0, 0, [], rfl, OwnLks.nil _ _, rfl, hx2⟩
  obtain ⟨k, rfl⟩ := Int.eq_ofNat_of_zero_le (show 0 ≤ first by omega)
  by_cases hgt : (n : Int) < k
  · rw [if_pos (.inr hgt)] at hr
    cases hr
    have hd : decide ((n : Int) < k) = true := decide_eq_true hgt
    go_enter Try.func64, Try.ntmps64
    go_wp2_with (first
      | (go_at_call 66; (with_reducible refine HM.out.mono ?_); rintro e w2 ⟨rfl, hx2⟩)
      | fail)
    go_ret2
    exact ⟨none, 0, 0, [], rfl, OwnLks.nil _ _, rfl, hx2⟩
  rw [if_neg (by omega), Int.toNat_natCast] at hr
  simp only [Prod.mk.injEq] at hr
  obtain ⟨hLR, rfl⟩ := hr
  have hkn : k ≤ n := by omega
  obtain ⟨hV, hn256⟩ := stC_val hst
  rw [List.length_map, hL.1] at hn256
  have HLR := Lib.hid hLR
  have HV := Lib.hid hV
  have HLL := Lib.hid hL
  have hrow := hL.2.1
  clear hLR hV hst hlt hgt hL
  go_enter Try.func64, Try.ntmps64
  go_wp2_with (first
    | (go_at_call 66; (with_reducible refine HM.out.mono ?_); rintro e w2 ⟨rfl, hx2⟩)
    | ((with_reducible refine atSlot 25 ?_); refine wpList_of_wp rfl (owp_sl_lo (o := ⟨some 25, _, _, _, _, _⟩) _ _ rfl Try.elLk rfl (hrow.ext hx2) k rfl rfl hkn ?_); intro a3 hr3; have hL3 : Links w2 a3 (n - k) (c - k) (L.drop k) := ⟨(by rw [List.length_drop, HLN.out]), (by rw [← lk_drop]; exact hr3), (fun y hy => (HLL.out.2.2 y (List.mem_of_mem_drop hy)).ext hx2)⟩; have HL3 := Lib.hid hL3; clear hL3 hr3)
    | (go_at_call 93; (with_reducible refine (copied_any a3 (n - k) (c - k) (L.drop k) _ HL3.out (by omega)).mono ?_); rintro e w4 ⟨a4, n4, c4, L4, rfl, hO4, hD4, hx4⟩)
    | fail)
  have hn4 : n4 = n - k := by rw [← hO4.len, ← List.length_map (f := Lk.d), hD4, List.length_map, List.length_drop, HLN.out]
  obtain ⟨m, hm⟩ : ∃ m, m = n - k := ⟨_, rfl⟩
  rw [← hm] at hn4
  subst hn4
  have HM4 := Lib.hid hm
  have hm256 : n4 + k ≤ 256 := by omega
  have hx24 := hx2.trans' hx4
  have hO4' := hO4.base hx2.size
  have HD4 := Lib.hid hD4
  clear hm hD4 hO4
  go_loopw [29] (DrRel w S (L.map Lk.d) k n4 a4 c4) (fun i _ => n4 - (intOf i).toNat)
  case atStart =>
    refine ⟨0, L4, rfl, Nat.zero_le _, hO4', (fun i y h => absurd h (Nat.not_lt_zero _)), (fun i y _ hy => ?_), hx24⟩
    have h := congrArg (fun l => l[i]?) HD4.out
    simp only [List.getElem?_map, hy, Option.map_some, List.getElem?_drop] at h
    rw [List.getElem?_map]
    exact h.symm
  case round =>
    obtain ⟨j, LL, rfl, hj, hO, hA, hB, hx⟩ := hrel
    rename World => w5
    by_cases hjn : j < n4
    rotate_left
    · obtain rfl : j = n4 := by omega
      have hfin : LL.map Lk.d = LR := by
        rw [← HLR.out]
        refine List.ext_getElem? fun i => ?_
        rw [drF_get, List.getElem?_map, List.getElem?_drop]
        by_cases hi : i < j
        · obtain ⟨y, hy⟩ : ∃ y, LL[i]? = some y := ⟨_, List.getElem?_eq_getElem (by rw [hO.len]; exact hi)⟩
          obtain ⟨x, h1, h2⟩ := hA i y hi hy
          rw [hy, h1]
          simp [h2]
        · rw [List.getElem?_eq_none (by rw [hO.len]; omega), List.getElem?_eq_none (by rw [List.length_map, HLN.out]; have := HM4.out; omega)]
          rfl
      have HF := Lib.hid hfin
      clear hfin hA hB
      go_wp2
      go_ret2
      exact ⟨a4, j, c4, LL, rfl, hO, HF.out, hx⟩
    obtain ⟨A, cur, rfl, hAb, hcur, -, -⟩ := own_some hO.own (by omega)
    obtain ⟨y, hy⟩ : ∃ y, LL[j]? = some y := ⟨_, List.getElem?_eq_getElem (by rw [hO.len]; exact hjn)⟩
    have hyL := hB j y (Nat.le_refl _) hy
    have hyo := hO.dat y (List.mem_of_getElem? hy)
    have hyb : -9223372036854775808 ≤ y.b ∧ y.b ≤ 9223372036854775807 := hyo.2.2
    obtain ⟨z, hz1, hz2⟩ := HV.out.2 (k + j) _ hyL
    have hbk := lnS_ok hz2
    have hyr : -1 ≤ y.b ∧ y.b < (k + j : Nat) := by
      rcases hbk with ⟨h1, -, -⟩ | ⟨jj, ct, dt, os, h1, h2, -⟩
      · have h1' : y.b = -1 := h1; omega
      · have h1' : y.b = jj := h1
        have := (List.getElem?_eq_some_iff.1 h2).1
        rw [List.length_take] at this
        omega
    have hr5 := Row.of_own hO.own
    have hfin : ∀ (y' : Lk), y'.d = drL S k (k + j) y.d → (∀ i q, i < j + 1 → (LL.set j y')[i]? = some q → ∃ x, (L.map Lk.d)[k + i]? = some x ∧ q.d = drL S k (k + i) x) ∧ (∀ i q, j + 1 ≤ i → (LL.set j y')[i]? = some q → (L.map Lk.d)[k + i]? = some q.d) := fun y' hy' => by
      refine ⟨fun i q hi hq => ?_, fun i q hi hq => ?_⟩
      · rcases get_set_or hq with ⟨rfl, rfl⟩ | ⟨hne, hq⟩
        · exact ⟨_, hyL, hy'⟩
        · exact hA i q (by omega) hq
      · rw [List.getElem?_set_ne (by omega)] at hq
        exact hB i q (by omega) hq
    have HFN := Lib.hid hfin
    have HY := Lib.hid hy
    have HO := Lib.hid hO
    have HYO := Lib.hid hyo
    have HAB := Lib.hid hAb
    have hE6 := Ext.alloc' w5 (.cells #[.int .i64 y.b, .slice y.a y.n y.c] 73)
    have HAA := Lib.hid hA
    have HBB := Lib.hid hB
    have HZ1 := Lib.hid hz1
    have hfull : y.b = -1 → y.l = z.1 := fun h => by
      rcases hbk with ⟨-, -, h3⟩ | ⟨jj, ct, dt, os, h1, -⟩
      · rw [h3]; rfl
      · have h4 : y.b = (jj : Int) := h1
        omega
    have HFU := Lib.hid hfull
    clear hfull
    clear hyL hyo hz2 hbk hfin hA hB hO hcur hy hAb hz1
    by_cases hge : (k : Int) ≤ y.b
    · have hd : decide ((k : Int) ≤ y.b) = true := decide_eq_true hge
      have hO6 := (HO.out.ext hE6).own
      have HO6 := Lib.hid hO6
      clear hO6
      go_wp2_with (first
        | ((with_reducible refine atSlot 32 ?_); refine wpList_of_wp rfl (owp_ix (o := ⟨some 32, _, _, _, _, _⟩) _ _ rfl Try.elLk rfl hr5 j rfl rfl hjn ?_); intro b3 o3 hc3; have hrg3 := lk_range HY.out hc3; clear hc3)
        | ((with_reducible refine atSlot 33 ?_); refine wpList_of_wp rfl (wp_load_mid (op := ⟨some 33, _, _, _, _, _⟩) 73 _ rfl b3 o3 rfl _ _ hrg3 Try.underlying73 rfl (by kernel_rfl) ?_); simp only [Lk.cells]; clear hrg3)
        | ((with_reducible refine atSlot 41 ?_); refine wpList_of_wp rfl (owp_ix (o := ⟨some 41, _, _, _, _, _⟩) _ _ rfl Try.elLk rfl (Row.of_own HO6.out) j rfl rfl hjn ?_); intro b4 o4 hc4; have hd4 := (hc4 0 (by decide)).trans (lk_get HY.out 0 (by decide)); simp only [Lk.cells, Nat.add_zero, List.getElem?_cons_zero] at hd4; clear hc4)
        | ((with_reducible refine atSlot 46 ?_); refine wpList_of_wp rfl (owp_ixp3 (o := ⟨some 46, _, _, _, _, _⟩) _ _ rfl Try.elLk rfl j rfl rfl hjn ?_))
        | ((with_reducible refine atStore 47 ?_); refine wpList_of_wp rfl (owp_st1 (o := ⟨none, _, _, _, _, _⟩) 3 _ _ rfl A (j * 2 + 0) (.int .i64 (y.b - k)) rfl rfl rfl (own_there HO6.out (by omega)) (by kernel_rfl) rfl ?_))
        | fail)
      go_roundw
      case rel =>
        have hO7 := (HO.out.ext hE6).set1 (y := { y with b := y.b - k }) (v := .int .i64 (y.b - k)) HY.out (by decide : 0 < 2) rfl ⟨own_ext HYO.out.1 hE6, HYO.out.2.1, i64_of (by show -9223372036854775808 ≤ y.b - k; omega) (by show y.b - k ≤ 9223372036854775807; omega)⟩
        obtain ⟨g1, g2⟩ := HFN.out { y with b := y.b - k } (by unfold drL; rw [if_neg (by show ¬ y.b < (k : Int); omega)]; rfl)
        exact ⟨j + 1, _, by go_num, hjn, hO7, g1, g2, (hx.trans' hE6).st HAB.out _ _⟩
      case measure => simp [intOf]; omega
    · have hd : decide ((k : Int) ≤ y.b) = false := decide_eq_false hge
      by_cases h0 : 0 ≤ y.b
      · have hd2 : decide ((0 : Int) ≤ y.b) = true := decide_eq_true h0
        have hco := content_any a n c L S (k + j) z _ HV.out (HLL.out.ext (hx.trans' hE6)) HZ1.out
        rw [show ((k + j : Nat) : Int) = (k : Int) + (j : Int) by omega] at hco
        have HCO := Lib.hid hco
        clear hco
        go_wp2_with (first
          | ((with_reducible refine atSlot 32 ?_); refine wpList_of_wp rfl (owp_ix (o := ⟨some 32, _, _, _, _, _⟩) _ _ rfl Try.elLk rfl hr5 j rfl rfl hjn ?_); intro b3 o3 hc3; have hrg3 := lk_range HY.out hc3; clear hc3)
          | ((with_reducible refine atSlot 33 ?_); refine wpList_of_wp rfl (wp_load_mid (op := ⟨some 33, _, _, _, _, _⟩) 73 _ rfl b3 o3 rfl _ _ hrg3 Try.underlying73 rfl (by kernel_rfl) ?_); simp only [Lk.cells]; clear hrg3)
          | (go_at_call 91; (with_reducible refine HCO.out.mono ?_); rintro e w7 ⟨a7, n7, c7, rfl, ho7, hx7⟩; have hE7 := hE6.trans' hx7; have HO7 := Lib.hid (HO.out.ext hE7))
          | ((with_reducible refine atSlot 60 ?_); refine wpList_of_wp rfl (owp_ixp3 (o := ⟨some 60, _, _, _, _, _⟩) _ _ rfl Try.elLk rfl j rfl rfl hjn ?_))
          | ((with_reducible refine atStore 60 ?_); refine wpList_store_mid rfl 73 _ _ rfl A (j * 2) #[.int .i64 (-1), .slice a7 n7 c7] rfl rfl (own_there HO7.out.own (by simp; omega)) (by kernel_rfl) (by simp [Value.oneCell']) ?_)
          | fail)
        have hl7 := own_len ho7
        have hz := HV.out.size (List.mem_of_getElem? HZ1.out)
        go_roundw
        case rel =>
          have hO8 := HO7.out.set (i := j) (y := ⟨-1, a7, n7, c7, z.1⟩) hjn ⟨own_base ho7 (hx.trans' hE6).size, (by show n7 ≤ _; omega), (i64_of (by decide) (by decide) : i64B (-1))⟩
          obtain ⟨g1, g2⟩ := HFN.out ⟨-1, a7, n7, c7, z.1⟩ (by unfold drL; rw [if_pos (by show y.b < (k : Int); omega), getD_of HZ1.out]; rfl)
          exact ⟨j + 1, _, by go_num, hjn, hO8, g1, g2, (hx.trans' hE7).sts HAB.out _ _⟩
        case measure => simp [intOf]; omega
      · have hb1 : y.b = -1 := by omega
        have hd2 : decide ((0 : Int) ≤ y.b) = false := decide_eq_false h0
        have HB1 := Lib.hid hb1
        clear hb1
        go_wp2_with (first
          | ((with_reducible refine atSlot 32 ?_); refine wpList_of_wp rfl (owp_ix (o := ⟨some 32, _, _, _, _, _⟩) _ _ rfl Try.elLk rfl hr5 j rfl rfl hjn ?_); intro b3 o3 hc3; have hrg3 := lk_range HY.out hc3; clear hc3)
          | ((with_reducible refine atSlot 33 ?_); refine wpList_of_wp rfl (wp_load_mid (op := ⟨some 33, _, _, _, _, _⟩) 73 _ rfl b3 o3 rfl _ _ hrg3 Try.underlying73 rfl (by kernel_rfl) ?_); simp only [Lk.cells]; clear hrg3)
          | fail)
        go_roundw
        case rel =>
          refine ⟨j + 1, LL, by go_num, hjn, HO.out.ext hE6, fun i q hi hq => ?_, fun i q hi hq => HBB.out i q (by omega) hq, hx.trans' hE6⟩
          by_cases hij : i = j
          · subst hij
            rw [HY.out] at hq
            cases hq
            refine ⟨_, HBB.out i y (Nat.le_refl _) HY.out, ?_⟩
            unfold drL
            rw [if_pos (by show y.b < (k : Int); omega), getD_of HZ1.out]
            show Ln.mk y.b y.l = _
            rw [HB1.out, HFU.out HB1.out]
          · exact HAA.out i q (by omega) hq
        case measure => simp [intOf]; omega
end Go.Proofs.Ytcljlglmnagodaa
