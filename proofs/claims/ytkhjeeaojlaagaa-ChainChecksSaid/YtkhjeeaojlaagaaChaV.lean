/-
  The law ChainChecks.
-/
import Derived.Test.YtkhjeeaojlaagaaChaT
import Derived.Test.YtkhjeeaojlaagaaOpenL
namespace Go.Proofs.Ytkhjeeaojlaagaa
open Go.RowKit

theorem Try.elLs : Elem Try.prog 52 26 1 24 (.slice none 0 0) := ⟨Try.underlying52, by kernel_rfl, rfl, by decide⟩
/-- Two chains. -/
theorem two_chain {w : World} {a b : Option Addr} {n c m d j : Nat} {L M : List Lk} (hj : j < 2) (hL : Links w a n c L) (hM : Links w b m d M) (hn : n ≤ 140737488355328) (hm : m ≤ 140737488355328) :
    ∃ (xa : Option Addr) (xn xc : Nat) (LX : List Lk), ([.slice a n c, .slice b m d] : List Value)[j]? = some (.slice xa xn xc) ∧ Links w xa xn xc LX ∧ xn ≤ 140737488355328 := by
  match j, hj with
  | 0, _ => exact ⟨a, n, c, L, rfl, hL, hn⟩
  | 1, _ => exact ⟨b, m, d, M, rfl, hM, hm⟩
theorem apC_err {L : List Ln} {b : List UInt8} {S : List (List UInt8 × Nat)} {er : Int} (h : stC L = (S, er)) (he : er ≠ 0) : apC L b = ([], er) := by unfold apC; rw [h]; exact if_neg he
theorem drC_err {L : List Ln} {k : Int} {S : List (List UInt8 × Nat)} {er : Int} (h : stC L = (S, er)) (he : er ≠ 0) : drC L k = ([], er) := by unfold drC; rw [h]; exact if_neg he
theorem drC_zero {L : List Ln} {S : List (List UInt8 × Nat)} (h : stC L = (S, 0)) : ∃ LR, drC L 0 = (LR, 0) := by
  unfold drC
  rw [h, if_pos rfl, if_neg (by omega)]
  exact ⟨_, rfl⟩

set_option maxRecDepth 100000 in
set_option maxHeartbeats 4000000 in
theorem ChainChecks_walk (a : Option Addr) (n c : Nat) (L : List Lk) (a1 : Option Addr) (n1 c1 : Nat) (L1 : List Int) (w : World)
    (hL : Links w a n c L) (hn : n * 32 ≤ 140737488351232)
    (hl : Row w a1 n1 c1 1 (L1.map (Value.int .i64))) (hli : ∀ x ∈ L1, -9223372036854775808 ≤ x ∧ x ≤ 9223372036854775807) (ha1 : ∀ p, a1 = some p → 0 < n1 → p.block < w.heap.size) :
    Calls Try.prog 9 #[.slice a n c, .slice a1 n1 c1] w (LawPost w) := by
  have hn' : n ≤ 140737488355328 := by omega
  have ht : Tape (w.alloc (.cells #[.slice a1 n1 c1, .int .i64 0] 25)) w.heap.size 0 :=
    ⟨a1, n1, c1, L1, heap_alloc_new w _, hl.ext (Ext.alloc' _ _), ha1, hli⟩
  have hx1 : Ext w (w.alloc (.cells #[.slice a1 n1 c1, .int .i64 0] 25)) := Ext.alloc' _ _
  have HT := Lib.hid ht
  clear ht hn
  go_enter Try.func9, Try.ntmps9
  go_wp2_with (first
    | (go_at_call 17; (with_reducible refine (faulty27_7 w.heap.size 0 _ HT.out (by omega)).mono ?_); rintro e w2 ⟨af, m, cf, k2, LF, rfl, hO, hm, ht2, hk2, hg2⟩; have HO := Lib.hid hO; clear hO)
    | fail)
  have hal := Ext.alloc' w2 (.cells #[.slice a n c, .slice af m cf] 26)
  have HX3 := Lib.hid ((hx1.rd hg2 (Nat.le_refl _)).trans' hal)
  have HL3 := Lib.hid (hL.ext HX3.out)
  have HF3 := Lib.hid (HO.out.links.ext hal)
  have HR3 := Lib.hid (Row.new w2 #[.slice a n c, .slice af m cf] 26 2 1 rfl (by decide))
  clear ht2 hg2 hx1 hal hL
  go_loopw [7] (TwoRel (w2.alloc (.cells #[.slice a n c, .slice af m cf] 26))) (fun i _ => 2 - (intOf i).toNat)
  case atStart => exact ⟨0, rfl, by omega, Below.refl _ _⟩
  case round =>
    obtain ⟨j, rfl, hj, hx5⟩ := hrel
    rename World => w5
    by_cases hjn : j < 2
    rotate_left
    · obtain rfl : j = 2 := by omega
      go_wp2_with (first
        | (go_at_call 15; (with_reducible refine (known27_any _).mono ?_); rintro e w8 ⟨rfl, hx8⟩)
        | fail)
      go_ret
      exact ⟨rfl, (HX3.out.trans' hx5).trans' hx8⟩
    obtain ⟨xa, xn, xc, LX, hv, hLX, hxn⟩ := two_chain hjn HL3.out HF3.out hn' (by omega)
    obtain ⟨S, er, hst⟩ : ∃ S er, stC (LX.map Lk.d) = (S, er) := ⟨_, _, rfl⟩
    have HV := Lib.hid hv
    have HL5 := Lib.hid (hLX.ext hx5)
    have HR5 := Lib.hid (HR3.out.ext hx5)
    have HST := Lib.hid hst
    have hm1 : i64B (-1) := ⟨by decide, by decide⟩
    have hm0 : i64B 0 := ⟨by decide, by decide⟩
    clear hst hv hLX
    by_cases he : er = 0
    · subst he
      have hgv : getV S 0 xn (-1) = ([], 273) := by unfold getV; rw [if_neg (by simp), if_pos (.inl (by omega))]
      obtain ⟨LA, ea, hap⟩ : ∃ LA ea, apC (LX.map Lk.d) [] = (LA, ea) := ⟨_, _, rfl⟩
      obtain ⟨LD, hdr⟩ := drC_zero HST.out
      have HG := Lib.hid hgv
      have HA := Lib.hid hap
      have HD := Lib.hid hdr
      clear hgv hap hdr
      go_wp2_with (first
        | ((with_reducible refine atSlot 31 ?_); refine wpList_of_wp rfl (owp_ix (o := ⟨some 31, _, _, _, _, _⟩) _ _ rfl Try.elLs rfl HR5.out j rfl rfl hjn ?_); intro b8 o8 hc8; have hd9 := two_cell HV.out hc8; clear hc8)
        | (go_at_call 29; (with_reducible refine (refCheck27_any xa xn xc LX _ HL5.out hxn HST.out).mono ?_); rintro e w6 ⟨rfl, hx6⟩; clear hd9)
        | (go_at_call 19; (with_reducible refine (chGet_any xa xn xc LX (-1) _ (HL5.out.ext hx6) hxn hm1 HST.out HG.out).mono ?_); rintro e w7 ⟨a7, n7, c7, rfl, -, hx7⟩; have hx67 := Ext.trans' hx6 hx7)
        | (go_at_call 13; (with_reducible refine (chAppend_any xa xn xc LX none 0 0 [] _ (HL5.out.ext hx67) (Bytes.nil _) hxn (by omega) HA.out).mono ?_); rintro e w8 ⟨a8, n8, c8, L8, rfl, -, -, hx8⟩; have hx68 := hx67.trans' hx8)
        | (go_at_call 26; (with_reducible refine (chDrop_any xa xn xc LX 0 _ (HL5.out.ext hx68) hxn hm0 HD.out).mono ?_); rintro e w9 ⟨a9, n9, c9, L9, rfl, -, -, hx9⟩; have hx69 := hx68.trans' hx9)
        | (go_at_call 28; (with_reducible refine (chCheck_any xa xn xc LX _ (HL5.out.ext hx69) hxn HST.out).mono ?_); rintro e w10 ⟨rfl, hx10⟩; have hx610 := hx69.trans' hx10)
        | (go_at_call 30; (with_reducible refine (chCost_any xa xn xc LX _ (HL5.out.ext hx610) hxn).mono ?_); rintro e w11 ⟨rfl, hx11⟩; have hx611 := hx610.trans' hx11)
        | (go_at_call 31; (with_reducible refine (refChCost_any xa xn xc LX _ (HL5.out.ext hx611) hxn).mono ?_); rintro e w12 ⟨rfl, hx12⟩)
        | fail)
      go_roundw
      case rel => exact ⟨j + 1, by go_num, by omega, (hx5.trans' hx611).trans' hx12⟩
      case measure => simp [intOf]; omega
    · have hgv : getV S er xn (-1) = ([], er) := by unfold getV; rw [if_pos he]
      have HG := Lib.hid hgv
      have HA := Lib.hid (apC_err (b := []) HST.out he)
      have HD := Lib.hid (drC_err (k := 0) HST.out he)
      obtain ⟨q1, q2⟩ := ne0 he
      clear hgv he
      go_wp2_with (first
        | ((with_reducible refine atSlot 31 ?_); refine wpList_of_wp rfl (owp_ix (o := ⟨some 31, _, _, _, _, _⟩) _ _ rfl Try.elLs rfl HR5.out j rfl rfl hjn ?_); intro b8 o8 hc8; have hd9 := two_cell HV.out hc8; clear hc8)
        | (go_at_call 29; (with_reducible refine (refCheck27_any xa xn xc LX _ HL5.out hxn HST.out).mono ?_); rintro e w6 ⟨rfl, hx6⟩; clear hd9)
        | (go_at_call 19; (with_reducible refine (chGet_any xa xn xc LX (-1) _ (HL5.out.ext hx6) hxn hm1 HST.out HG.out).mono ?_); rintro e w7 ⟨a7, n7, c7, rfl, -, hx7⟩; have hx67 := Ext.trans' hx6 hx7)
        | (go_at_call 13; (with_reducible refine (chAppend_any xa xn xc LX none 0 0 [] _ (HL5.out.ext hx67) (Bytes.nil _) hxn (by omega) HA.out).mono ?_); rintro e w8 ⟨a8, n8, c8, L8, rfl, -, -, hx8⟩; have hx68 := hx67.trans' hx8)
        | (go_at_call 26; (with_reducible refine (chDrop_any xa xn xc LX 0 _ (HL5.out.ext hx68) hxn hm0 HD.out).mono ?_); rintro e w9 ⟨a9, n9, c9, L9, rfl, -, -, hx9⟩; have hx69 := hx68.trans' hx9)
        | (go_at_call 28; (with_reducible refine (chCheck_any xa xn xc LX _ (HL5.out.ext hx69) hxn HST.out).mono ?_); rintro e w10 ⟨rfl, hx10⟩; have hx610 := hx69.trans' hx10)
        | (go_at_call 30; (with_reducible refine (chCost_any xa xn xc LX _ (HL5.out.ext hx610) hxn).mono ?_); rintro e w11 ⟨rfl, hx11⟩; have hx611 := hx610.trans' hx11)
        | (go_at_call 31; (with_reducible refine (refChCost_any xa xn xc LX _ (HL5.out.ext hx611) hxn).mono ?_); rintro e w12 ⟨rfl, hx12⟩)
        | fail)
      go_roundw
      case rel => exact ⟨j + 1, by go_num, by omega, (hx5.trans' hx611).trans' hx12⟩
      case measure => simp [intOf]; omega
end Go.Proofs.Ytkhjeeaojlaagaa
