/-
  common, the reference's match.
-/
import Derived.Test.YtkhjeeaojlaagaaGen
import Derived.Test.YtkhjeeaojlaagaaMath1
namespace Go.Proofs.Ytkhjeeaojlaagaa
open Go.RowKit

def CmRel (w : World) (a b : List UInt8) (m : Nat) (i : Value) (wr : World) : Prop := ∃ j : Nat, i = .int .i64 j ∧ j ≤ m ∧ cmn a b = j + cmn (a.drop j) (b.drop j) ∧ Ext w wr

set_option maxRecDepth 100000 in
set_option maxHeartbeats 2000000 in
theorem common_any (a1 : Option Addr) (n1 c1 : Nat) (l1 : List UInt8) (a2 : Option Addr) (n2 c2 : Nat) (l2 : List UInt8) (w : World) (h1 : Bytes w a1 n1 c1 l1) (h2 : Bytes w a2 n2 c2 l2) (hn1 : n1 ≤ 140737488355328) (hn2 : n2 ≤ 140737488355328) :
    Calls Try.prog 43 #[.slice a1 n1 c1, .slice a2 n2 c2] w (NewNone (.int .i64 (cmn l1 l2)) w) := by
  obtain ⟨m, hmn⟩ : ∃ m, (n2 < n1 ∧ m ≤ n2 ∧ n2 ≤ m) ∨ (¬ n2 < n1 ∧ m ≤ n1 ∧ n1 ≤ m) := by
    by_cases h : n2 < n1
    · exact ⟨n2, .inl ⟨h, Nat.le_refl _, Nat.le_refl _⟩⟩
    · exact ⟨n1, .inr ⟨h, Nat.le_refl _, Nat.le_refl _⟩⟩
  have HL1 := Lib.hid h1.len
  have HL2 := Lib.hid h2.len
  rcases hmn with ⟨hlt, hm1, hm2⟩ | ⟨hlt, hm1, hm2⟩
  all_goals
    go_enter Try.func43, Try.ntmps43
    go_wp2
    go_loopw [13] (CmRel w l1 l2 m) (fun i _ => m - (intOf i).toNat)
    case atStart => exact ⟨0, rfl, by omega, by simp, Below.refl _ _⟩
    case round =>
      obtain ⟨j, rfl, hj, hc, hx⟩ := hrel
      rename World => w1
      have HC := Lib.hid hc
      clear hc
      by_cases hjm : j < m
      · obtain ⟨x, hx1⟩ : ∃ x, l1[j]? = some x := ⟨_, List.getElem?_eq_getElem (by have := HL1.out; omega)⟩
        obtain ⟨y, hy1⟩ : ∃ y, l2[j]? = some y := ⟨_, List.getElem?_eq_getElem (by have := HL2.out; omega)⟩
        have hst := cmn_step hx1 hy1
        have HX := Lib.hid hx1
        have HY := Lib.hid hy1
        clear hx1 hy1
        have hb1 := h1.ext hx
        have hb2 := h2.ext hx
        by_cases hxy : x = y
        · subst hxy
          rw [if_pos rfl] at hst
          have HS := Lib.hid hst
          clear hst
          go_wp2
          refine wp_region_e [] (.qs [0, 1, 2, 3, 4, 5, 6, 7, 8] .nil) (by kernel_rfl) (by kernel_rfl) ?_
          iterate 2 ((refine wpY_q rfl rfl _ (fun w' hx' => by go_simp; try rfl) ?_; go_simp))
          refine wpY_ixB rfl rfl (.tmp 16) (.tmp 17) rfl Try.elB rfl (fun w' h => hb1.ext h) j rfl rfl x HX.out ?_
          intro p3 hp3
          iterate 3 ((refine wpY_q rfl rfl _ (fun w' hx' => by go_simp; try rfl) ?_; go_simp))
          refine wpY_ixB rfl rfl (.tmp 20) (.tmp 21) rfl Try.elB rfl (fun w' h => hb2.ext h) j rfl rfl x HY.out ?_
          intro p4 hp4
          iterate 2 ((refine wpY_q rfl rfl _ (fun w' hx' => by go_simp; try rfl) ?_; go_simp))
          refine wpY_nil ?_
          clear hp3 hp4
          go_wp2
          go_roundw
          case rel => exact ⟨j + 1, by go_num, by omega, by rw [HC.out, HS.out]; omega, hx.trans' (Ext.drew' _)⟩
          case measure => simp [intOf]; omega
        · rw [if_neg hxy] at hst
          have hne : (x.toNat : Int) ≠ (y.toNat : Int) := fun h => hxy (UInt8.toNat_inj.1 (by omega))
          obtain ⟨q1, q2⟩ := neI hne
          have HS := Lib.hid hst
          clear hst hne hxy
          go_wp2
          refine wp_region_e [] (.qs [0, 1, 2, 3, 4, 5, 6, 7, 8] .nil) (by kernel_rfl) (by kernel_rfl) ?_
          iterate 2 ((refine wpY_q rfl rfl _ (fun w' hx' => by go_simp; try rfl) ?_; go_simp))
          refine wpY_ixB rfl rfl (.tmp 16) (.tmp 17) rfl Try.elB rfl (fun w' h => hb1.ext h) j rfl rfl x HX.out ?_
          intro p3 hp3
          iterate 3 ((refine wpY_q rfl rfl _ (fun w' hx' => by go_simp; try rfl) ?_; go_simp))
          refine wpY_ixB rfl rfl (.tmp 20) (.tmp 21) rfl Try.elB rfl (fun w' h => hb2.ext h) j rfl rfl y HY.out ?_
          intro p4 hp4
          iterate 2 ((refine wpY_q rfl rfl _ (fun w' hx' => by go_simp; try rfl) ?_; go_simp))
          refine wpY_nil ?_
          clear hp3 hp4
          go_wp2
          go_ret
          exact ⟨by rw [HC.out, HS.out, Nat.add_zero]; rfl, hx.trans' (Ext.drew' _)⟩
      · obtain rfl : j = m := by omega
        have h0 : cmn (l1.drop j) (l2.drop j) = 0 := cmn_out (by have := HL1.out; have := HL2.out; omega)
        have H0 := Lib.hid h0
        clear h0
        go_wp2
        go_ret
        exact ⟨by have := HC.out; have := H0.out; first | (rw [show cmn l1 l2 = n2 by omega]; rfl) | (rw [show cmn l1 l2 = n1 by omega]; rfl), hx⟩

/-- The state of the reference's search at s. -/
def MtRel (w : World) (b T : List UInt8) (best fr s : Value) (wr : World) : Prop :=
  ∃ j k f : Nat, s = .int .i64 j ∧ best = .int .i64 k ∧ fr = .int .i64 f ∧ j ≤ b.length ∧ k ≤ T.length ∧ matchD b T = matchF b T (b.length - j) j k f ∧ Ext w wr
def MtIn (w : World) (A B : List UInt8) (k : Value) (wr : World) : Prop := ∃ j : Nat, k = .int .i64 j ∧ j ≤ A.length ∧ j ≤ B.length ∧ cmn A B = j + cmn (A.drop j) (B.drop j) ∧ Ext w wr
theorem matchF_step (b T : List UInt8) {j k f : Nat} (h : j < b.length) : matchF b T (b.length - j) j k f = if k < cmn (b.drop j) T then matchF b T (b.length - (j + 1)) (j + 1) (cmn (b.drop j) T) j else matchF b T (b.length - (j + 1)) (j + 1) k f := by
  obtain ⟨n, hn⟩ : ∃ n, b.length - j = n + 1 := ⟨b.length - j - 1, by omega⟩
  rw [hn, matchF, show b.length - (j + 1) = n by omega]

set_option maxRecDepth 100000 in
set_option maxHeartbeats 4000000 in
theorem match_any (a1 : Option Addr) (n1 c1 : Nat) (b : List UInt8) (a2 : Option Addr) (n2 c2 : Nat) (t : List UInt8) (at_ : Nat) (w : World) (h1 : Bytes w a1 n1 c1 b) (h2 : Bytes w a2 n2 c2 t) (hn1 : n1 ≤ 140737488355328) (hn2 : n2 ≤ 140737488355328)
    (hat : at_ ≤ n2) {k0 f0 : Nat} (hm : matchD b (t.drop at_) = (k0, f0)) :
    Calls Try.prog 48 #[.slice a1 n1 c1, .slice a2 n2 c2, .int .i64 at_] w (NewNone (.tuple #[.int .i64 k0, .int .i64 f0]) w) := by
  have HL1 := Lib.hid h1.len
  have HL2 := Lib.hid h2.len
  have HM := Lib.hid hm
  have hTl : (t.drop at_).length = n2 - at_ := by rw [List.length_drop, HL2.out]
  have HT := Lib.hid hTl
  clear hm hTl
  go_enter Try.func48, Try.ntmps48
  go_wp2
  go_loopw [8, 9, 10] (MtRel w b (t.drop at_)) (fun _ _ s _ => n1 - (intOf s).toNat)
  case atStart => exact ⟨0, 0, 0, rfl, rfl, rfl, by omega, by omega, rfl, Below.refl _ _⟩
  case round =>
    obtain ⟨j, k, f, rfl, rfl, rfl, hj, hk, hinv, hx⟩ := hrel
    rename World => w1
    have HI := Lib.hid hinv
    have hjn : j ≤ n1 := by have := HL1.out; omega
    have hkn : k ≤ n2 := by have := HT.out; omega
    clear hinv
    by_cases hjl : j < n1
    · have hst := matchF_step b (t.drop at_) (j := j) (k := k) (f := f) (by have := HL1.out; omega)
      have HS := Lib.hid hst
      clear hst
      have hAl : (b.drop j).length = n1 - j := by rw [List.length_drop, HL1.out]
      have HA := Lib.hid hAl
      clear hAl
      go_wp2
      go_loopw [11] (MtIn w1 (b.drop j) (t.drop at_)) (fun i _ => n1 - (intOf i).toNat)
      case atStart => exact ⟨0, rfl, by omega, by omega, by simp, Below.refl _ _⟩
      case round =>
        obtain ⟨i, rfl, hi1, hi2, hc, hx2⟩ := hrel
        rename World => w2
        have HC := Lib.hid hc
        have hi1' : i ≤ n1 - j := by have := HA.out; omega
        have hi2' : i ≤ n2 - at_ := by have := HT.out; omega
        have hx02 := hx.trans' hx2
        have hb1 := h1.ext hx02
        have hb2 := h2.ext hx02
        clear hc hi1 hi2
        have hw1 : IntKind.i64.wrap ((j : Int) + (i : Int)) = (j : Int) + i := by rw [IntKind.wrap_i64]; omega
        have hw2 : IntKind.i64.wrap ((at_ : Int) + (i : Int)) = (at_ : Int) + i := by rw [IntKind.wrap_i64]; omega
        by_cases hgo : j + i < n1 ∧ at_ + i < n2 ∧ (b.drop j)[i]? = (t.drop at_)[i]?
        · obtain ⟨g1, g2, g3⟩ := hgo
          obtain ⟨x, hx1⟩ : ∃ x, b[j + i]? = some x := ⟨_, List.getElem?_eq_getElem (by have := HL1.out; omega)⟩
          have hx1' : (b.drop j)[i]? = some x := by rw [List.getElem?_drop]; exact hx1
          have hy1' : (t.drop at_)[i]? = some x := by rw [← g3]; exact hx1'
          have hy1 : t[at_ + i]? = some x := by rw [← List.getElem?_drop]; exact hy1'
          have hst := cmn_step hx1' hy1'
          rw [if_pos rfl] at hst
          have HS2 := Lib.hid hst
          have HX := Lib.hid hx1
          have HY := Lib.hid hy1
          have hd1 : decide ((j : Int) + (i : Int) < n1) = true := decide_eq_true (by omega)
          have hd2 : decide ((at_ : Int) + (i : Int) < n2) = true := decide_eq_true (by omega)
          have hj1 : (j : Int) + (i : Int) = ((j + i : Nat) : Int) := by omega
          have ha1 : (at_ : Int) + (i : Int) = ((at_ + i : Nat) : Int) := by omega
          have HJ1 := Lib.hid hj1
          have HA1 := Lib.hid ha1
          clear hx1 hy1 hx1' hy1' hst g3 hj1 ha1
          go_wp2
          refine wp_region_e [] (.qs [0, 1, 2, 3, 4, 5, 6, 7, 8, 9, 10, 11, 12, 13, 14, 15, 16, 17, 18, 19, 20, 21, 22, 23, 24, 25, 26, 27, 28] .nil) (by kernel_rfl) (by kernel_rfl) ?_
          iterate 19 ((refine wpY_q rfl rfl _ (fun w' hx' => by go_simp; try rfl) ?_; go_simp))
          refine wpY_ixB rfl rfl (.tmp 33) (.tmp 36) rfl Try.elB rfl (fun w' h => hb1.ext h) (j + i) rfl HJ1.out x HX.out ?_
          intro p3 hp3
          iterate 5 ((refine wpY_q rfl rfl _ (fun w' hx' => by go_simp; try rfl) ?_; go_simp))
          refine wpY_ixB rfl rfl (.tmp 39) (.tmp 42) rfl Try.elB rfl (fun w' h => hb2.ext h) (at_ + i) rfl HA1.out x HY.out ?_
          intro p4 hp4
          iterate 3 ((refine wpY_q rfl rfl _ (fun w' hx' => by go_simp; try rfl) ?_; go_simp))
          refine wpY_nil ?_
          clear hp3 hp4 hd1 hd2 hw1 hw2
          go_wp2
          go_roundw
          case rel => exact ⟨i + 1, by go_num, by have := HA.out; omega, by have := HT.out; omega, by rw [HC.out, HS2.out]; omega, hx2.trans' (Ext.drew' _)⟩
          case measure => simp [intOf]; omega
        · by_cases g1 : j + i < n1
          · by_cases g2 : at_ + i < n2
            focus
              obtain ⟨x, hx1⟩ : ∃ x, b[j + i]? = some x := ⟨_, List.getElem?_eq_getElem (by have := HL1.out; omega)⟩
              obtain ⟨y, hy1⟩ : ∃ y, t[at_ + i]? = some y := ⟨_, List.getElem?_eq_getElem (by have := HL2.out; omega)⟩
              have hx1' : (b.drop j)[i]? = some x := by rw [List.getElem?_drop]; exact hx1
              have hy1' : (t.drop at_)[i]? = some y := by rw [List.getElem?_drop]; exact hy1
              have hxy : x ≠ y := fun h => hgo ⟨g1, g2, by rw [hx1', hy1', h]⟩
              have hst := cmn_step hx1' hy1'
              rw [if_neg hxy] at hst
              have HE := Lib.hid (show cmn (b.drop j) (t.drop at_) = i by rw [HC.out, hst, Nat.add_zero])
              have HX := Lib.hid hx1
              have HY := Lib.hid hy1
              have hne : (x.toNat : Int) ≠ (y.toNat : Int) := fun h => hxy (UInt8.toNat_inj.1 (by omega))
              obtain ⟨q1, q2⟩ := neI hne
              have hd1 : decide ((j : Int) + (i : Int) < n1) = true := decide_eq_true (by omega)
              have hd2 : decide ((at_ : Int) + (i : Int) < n2) = true := decide_eq_true (by omega)
              have HJ1 := Lib.hid (show (j : Int) + (i : Int) = ((j + i : Nat) : Int) by omega)
              have HA1 := Lib.hid (show (at_ : Int) + (i : Int) = ((at_ + i : Nat) : Int) by omega)
              clear hx1 hy1 hx1' hy1' hst hne hxy hgo
              go_wp2
              refine wp_region_e [] (.qs [0, 1, 2, 3, 4, 5, 6, 7, 8, 9, 10, 11, 12, 13, 14, 15, 16, 17, 18, 19, 20, 21, 22, 23, 24, 25, 26, 27, 28] .nil) (by kernel_rfl) (by kernel_rfl) ?_
              iterate 19 ((refine wpY_q rfl rfl _ (fun w' hx' => by go_simp; try rfl) ?_; go_simp))
              refine wpY_ixB rfl rfl (.tmp 33) (.tmp 36) rfl Try.elB rfl (fun w' h => hb1.ext h) (j + i) rfl HJ1.out x HX.out ?_
              intro p3 hp3
              iterate 5 ((refine wpY_q rfl rfl _ (fun w' hx' => by go_simp; try rfl) ?_; go_simp))
              refine wpY_ixB rfl rfl (.tmp 39) (.tmp 42) rfl Try.elB rfl (fun w' h => hb2.ext h) (at_ + i) rfl HA1.out y HY.out ?_
              intro p4 hp4
              iterate 3 ((refine wpY_q rfl rfl _ (fun w' hx' => by go_simp; try rfl) ?_; go_simp))
              refine wpY_nil ?_
              clear hp3 hp4 hd1 hd2 hw1 hw2
            rotate_left
            focus
              have HE := Lib.hid (show cmn (b.drop j) (t.drop at_) = i by rw [HC.out, cmn_out (.inr (by have := HT.out; omega)), Nat.add_zero])
              have hd1 : decide ((j : Int) + (i : Int) < n1) = true := decide_eq_true (by omega)
              have hd2 : decide ((at_ : Int) + (i : Int) < n2) = false := decide_eq_false (by omega)
              clear hgo
              go_wp2
              refine wp_region_e [] (.qs [0, 1, 2, 3, 4, 5, 6, 7, 8, 9, 10, 11, 12, 13, 14, 15, 16, 17, 18, 19, 20, 21, 22, 23, 24, 25, 26, 27, 28] .nil) (by kernel_rfl) (by kernel_rfl) ?_
              iterate 29 (first | ((refine wpY_q rfl rfl _ (fun w' hx' => by go_simp; try rfl) ?_; go_simp)) | ((refine wpY_skip rfl rfl ?_; go_simp)))
              refine wpY_nil ?_
              clear hd1 hd2 hw1 hw2
            all_goals
              by_cases hki : k < i
              · have hd : decide (k < i) = true := decide_eq_true hki
                have HST := Lib.hid (show matchF b (t.drop at_) (b.length - j) j k f = matchF b (t.drop at_) (b.length - (j + 1)) (j + 1) i j by rw [HS.out, HE.out, if_pos hki])
                go_wp2
                go_roundw
                case rel => exact ⟨j + 1, i, j, by go_num, rfl, rfl, by have := HL1.out; omega, by have := HT.out; omega, by rw [HI.out, HST.out], (hx.trans' hx2).trans' (Ext.drew' _)⟩
                case measure => simp [intOf]; omega
              · have hd : decide (k < i) = false := decide_eq_false hki
                have HST := Lib.hid (show matchF b (t.drop at_) (b.length - j) j k f = matchF b (t.drop at_) (b.length - (j + 1)) (j + 1) k f by rw [HS.out, HE.out, if_neg hki])
                go_wp2
                go_roundw
                case rel => exact ⟨j + 1, k, f, by go_num, rfl, rfl, by have := HL1.out; omega, by have := HT.out; omega, by rw [HI.out, HST.out], (hx.trans' hx2).trans' (Ext.drew' _)⟩
                case measure => simp [intOf]; omega
          · have HE := Lib.hid (show cmn (b.drop j) (t.drop at_) = i by rw [HC.out, cmn_out (.inl (by have := HA.out; omega)), Nat.add_zero])
            have hd1 : decide ((j : Int) + (i : Int) < n1) = false := decide_eq_false (by omega)
            clear hgo
            go_wp2
            refine wp_region_e [] (.qs [0, 1, 2, 3, 4, 5, 6, 7, 8, 9, 10, 11, 12, 13, 14, 15, 16, 17, 18, 19, 20, 21, 22, 23, 24, 25, 26, 27, 28] .nil) (by kernel_rfl) (by kernel_rfl) ?_
            iterate 29 (first | ((refine wpY_q rfl rfl _ (fun w' hx' => by go_simp; try rfl) ?_; go_simp)) | ((refine wpY_skip rfl rfl ?_; go_simp)))
            refine wpY_nil ?_
            clear hd1 hw1 hw2
            by_cases hki : k < i
            · have hd : decide (k < i) = true := decide_eq_true hki
              have HST := Lib.hid (show matchF b (t.drop at_) (b.length - j) j k f = matchF b (t.drop at_) (b.length - (j + 1)) (j + 1) i j by rw [HS.out, HE.out, if_pos hki])
              go_wp2
              go_roundw
              case rel => exact ⟨j + 1, i, j, by go_num, rfl, rfl, by have := HL1.out; omega, by have := HT.out; omega, by rw [HI.out, HST.out], (hx.trans' hx2).trans' (Ext.drew' _)⟩
              case measure => simp [intOf]; omega
            · have hd : decide (k < i) = false := decide_eq_false hki
              have HST := Lib.hid (show matchF b (t.drop at_) (b.length - j) j k f = matchF b (t.drop at_) (b.length - (j + 1)) (j + 1) k f by rw [HS.out, HE.out, if_neg hki])
              go_wp2
              go_roundw
              case rel => exact ⟨j + 1, k, f, by go_num, rfl, rfl, by have := HL1.out; omega, by have := HT.out; omega, by rw [HI.out, HST.out], (hx.trans' hx2).trans' (Ext.drew' _)⟩
              case measure => simp [intOf]; omega
    · obtain rfl : j = n1 := by omega
      have hfin := HI.out
      rw [show b.length - j = 0 by have := HL1.out; omega, matchF, HM.out, Prod.mk.injEq] at hfin
      obtain ⟨rfl, rfl⟩ := hfin
      go_wp2
      go_ret2
      exact ⟨rfl, hx⟩
end Go.Proofs.Ytkhjeeaojlaagaa
