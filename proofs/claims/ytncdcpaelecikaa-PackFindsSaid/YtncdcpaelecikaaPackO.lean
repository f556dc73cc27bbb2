/-
  The reader's frames; the program's Salvage.
-/
import Derived.Test.YtncdcpaelecikaaPackN
import Derived.Deep.LoopGhost
namespace Go.Proofs.Ytncdcpaelecikaa
open Go.RowKit

def FRel (w0 : World) (g : Nat) (V : Value) (l : List UInt8) (gk : Nat) (wr : World) : Prop :=
  ∃ (at_ cn cc : Nat) (ca : Option Addr) (L : List Ck), gk = l.length - at_ ∧ Rd wr g V at_ (.slice ca cn cc) at_ ∧ OwnCks wr w0.heap.size ca cn cc L ∧ Ext w0 wr ∧ cn ≤ at_ ∧ at_ ≤ l.length ∧ salv l = salvF l gk at_ (L.map Ck.d)
/-- What frames leaves. -/
def FramesPost (w0 : World) (g : Nat) (V : Value) (l : List UInt8) (e : Ending) (w' : World) : Prop :=
  ∃ (at_ : Int) (good cn cc : Nat) (ca : Option Addr) (L : List Ck), e = .returned (.int .i64 (stopE l good (L.map Ck.d))) ∧ Rd w' g V at_ (.slice ca cn cc) good ∧ OwnCks w' w0.heap.size ca cn cc L ∧ Ext w0 w' ∧ salv l = (L.map Ck.d, good) ∧
    good ≤ l.length ∧ cn ≤ good ∧ (stopE l good (L.map Ck.d) = 0 → at_ = (good : Int) + 1)
def isFrame (l : List UInt8) (at_ : Nat) : Bool := decide (l[at_]? = some 1)

theorem stop_none {l : List UInt8} {at_ : Nat} {acc : List Ck} (h : l[at_]? = none) : stopE l at_ acc = 293 := by unfold stopE; rw [h]
theorem stop_zero {l : List UInt8} {at_ : Nat} {acc : List Ck} (h : l[at_]? = some 0) : stopE l at_ acc = 0 := by unfold stopE; rw [h]; rfl
theorem stop_odd {l : List UInt8} {at_ : Nat} {acc : List Ck} {x : UInt8} (h : l[at_]? = some x) (h0 : x ≠ 0) (h1 : x ≠ 1) : stopE l at_ acc = 293 := by unfold stopE; rw [h]; simp [h0, h1]
theorem stop_err {l : List UInt8} {at_ : Nat} {acc : List Ck} {e : Int} (h : l[at_]? = some 1) (hf : frameAt l (at_ + 1) acc.getLast? = .error e) : stopE l at_ acc = e := by unfold stopE; rw [h]; simp [hf]
theorem stop_of {l : List UInt8} {at_ k : Nat} {acc : List Ck} (h : salv l = salvF l k at_ acc) (hs : l[at_]? ≠ some 1 ∨ ∃ e, frameAt l (at_ + 1) acc.getLast? = .error e) : salv l = (acc, at_) := by rw [h, salv_stop hs]
theorem ret_e {a b : Int} (h : a = b) : Ending.returned (.int .i64 a) = .returned (.int .i64 b) := by rw [h]

set_option maxRecDepth 100000 in
set_option maxHeartbeats 4000000 in
theorem frames_any (g : Nat) (a : Option Addr) (n c : Nat) (l : List UInt8) (w0 w : World) (hx : Ext w0 w) (hg0 : w0.heap.size ≤ g) (hb : Bytes w0 a n c l)
    (hn : n ≤ 100000000) (h4 : 4 ≤ n) (hR : Rd w g (.slice a n c) 4 (.slice none 0 0) 4) :
    Calls Try.prog 40 #[.pointer (some ⟨g, 0, none⟩)] w (FramesPost w0 g (.slice a n c) l) := by
  have HBL := Lib.hid hb.len
  have hne : ∀ p, a = some p → p.block ≠ g := fun p hp => by have := hb.lt (by omega) p hp; omega
  go_enter Try.func40, Try.ntmps40
  go_wp2
  go_loopg [] (l.length - 4) (fun k wr => FRel w0 g (.slice a n c) l k wr)
  case atStart => exact ⟨4, 0, 0, none, [], rfl, hR, OwnCks.nil _ _, hx, by omega, by have := HBL.out; omega, salv_start l⟩
  case round =>
    obtain ⟨at_, cn, cc, ca, L, hgk, hR1, hO1, hx1, hcn, hat, hsv⟩ := hrel
    rename World => w1
    have HSV := Lib.hid hsv
    have HGK := Lib.hid hgk
    clear hsv hgk
    have hat' : at_ ≤ n := by have := HBL.out; omega
    cases hget : l[at_]? with
    | none =>
      have hend : n ≤ at_ := by have := List.getElem?_eq_none_iff.1 hget; have := HBL.out; omega
      have HG := Lib.hid hget
      clear hget
      go_wp2_with (go_at_call 63; (with_reducible refine (mark_end g a n c _ at_ at_ _ hR1 hend).mono ?_); rintro e w2 ⟨rfl, hR2, hg2⟩)
      go_ret
      exact ⟨at_, at_, cn, cc, ca, L, ret_e (stop_none HG.out).symm, hR2, hO1.rd hR1 hg2, hx1.rd hg2 hg0, stop_of HSV.out (.inl (by rw [HG.out]; simp)), hat, hcn, fun h => by rw [stop_none HG.out] at h; cases h⟩
    | some x =>
      have hlt : at_ < n := by have := (List.getElem?_eq_some_iff.1 hget).1; have := HBL.out; omega
      have HG := Lib.hid hget
      clear hget
      by_cases hx0 : x = 0
      · subst hx0
        go_wp2_with (go_at_call 63; (with_reducible refine (mark_some g a n c _ at_ at_ l 0 _ hR1 (hb.ext hx1) hne HG.out (by omega)).mono ?_); rintro e w2 ⟨rfl, hR2, hg2⟩)
        go_ret
        exact ⟨at_ + 1, at_, cn, cc, ca, L, ret_e (stop_zero HG.out).symm, hR2, hO1.rd hR1 hg2, hx1.rd hg2 hg0, stop_of HSV.out (.inl (by rw [HG.out]; simp)), hat, hcn, fun _ => rfl⟩
      · by_cases hx1' : x = 1
        · subst hx1'
          obtain ⟨r, hr⟩ : ∃ r, frameAt l (at_ + 1) (L.map Ck.d).getLast? = r := ⟨_, rfl⟩
          have HR := Lib.hid hr
          clear hr hx0
          cases r with
          | error er =>
            have he := frame_errs HR.out
            have he0 : (er == 0) = false := by rcases he with rfl | rfl | rfl <;> decide
            clear he
            go_wp2_with (first
              | (go_at_call 63; (with_reducible refine (mark_some g a n c _ at_ at_ l 1 _ hR1 (hb.ext hx1) hne HG.out (by omega)).mono ?_); rintro e w2 ⟨rfl, hR2, hg2⟩)
              | (go_at_call 64; refine (frame_any g a n c ca cn cc (at_ + 1) at_ l L w0 _ (hx1.rd hg2 hg0) hg0 hb (by omega) (by simpa using hR2) (hO1.rd hR1 hg2) (by omega)).mono ?_; rw [HR.out]; rintro e w3 ⟨rfl, ⟨at3, hR3⟩, hO3, hx3⟩))
            go_ret
            have hst := stop_err HG.out HR.out
            exact ⟨at3, at_, cn, cc, ca, L, ret_e hst.symm, hR3, hO3, hx3, stop_of HSV.out (.inr ⟨_, HR.out⟩), hat, hcn, fun h => by rw [hst] at h; rw [h] at he0; cases he0⟩
          | ok r =>
            obtain ⟨k, nx⟩ := r
            have hnx := frame_next HR.out
            go_wp2_with (first
              | (go_at_call 63; (with_reducible refine (mark_some g a n c _ at_ at_ l 1 _ hR1 (hb.ext hx1) hne HG.out (by omega)).mono ?_); rintro e w2 ⟨rfl, hR2, hg2⟩)
              | (go_at_call 64; refine (frame_any g a n c ca cn cc (at_ + 1) at_ l L w0 _ (hx1.rd hg2 hg0) hg0 hb (by omega) (by simpa using hR2) (hO1.rd hR1 hg2) (by omega)).mono ?_; rw [HR.out]; rintro e w3 ⟨rfl, c3, a3, k3, hk3, hR3, hO3, hx3⟩))
            go_roundg (l.length - nx)
            case rel => exact ⟨nx, cn + 1, c3, a3, L ++ [k3], rfl, hR3, hO3, hx3, by omega, hnx.2, by rw [HSV.out, HGK.out, salv_on HG.out HR.out, List.map_append, List.map_cons, List.map_nil, hk3]⟩
            case measure => have := HGK.out; have := HBL.out; omega
        · have h0 : ((x.toNat : Int) == 0) = false := by simp; intro h; exact hx0 (UInt8.toNat_inj.1 h)
          have h1 : ((x.toNat : Int) == 1) = false := by simp; intro h; exact hx1' (UInt8.toNat_inj.1 (by show x.toNat = 1; omega))
          have h0n : ((x.toNat : Int) != 0) = true := by simp only [bne, h0, Bool.not_false]
          have h1n : ((x.toNat : Int) != 1) = true := by simp only [bne, h1, Bool.not_false]
          have HX0 := Lib.hid hx0
          have HX1 := Lib.hid hx1'
          clear hx0 hx1'
          go_wp2_with (go_at_call 63; (with_reducible refine (mark_some g a n c _ at_ at_ l x _ hR1 (hb.ext hx1) hne HG.out (by omega)).mono ?_); rintro e w2 ⟨rfl, hR2, hg2⟩)
          go_ret
          have hst := stop_odd (acc := L.map Ck.d) HG.out HX0.out HX1.out
          exact ⟨at_ + 1, at_, cn, cc, ca, L, ret_e hst.symm, hR2, hO1.rd hR1 hg2, hx1.rd hg2 hg0, stop_of HSV.out (.inl (by rw [HG.out]; intro h; exact HX1.out (Option.some.inj h))), hat, hcn, fun h => absurd h (by rw [hst]; decide)⟩

/-- What Salvage finds. -/
def pkSalv (l : List UInt8) : List Ck × Nat := if isPack l then salv l else ([], 0)
def SalvPost (w : World) (l : List UInt8) (e : Ending) (w' : World) : Prop :=
  ∃ (cn cc : Nat) (ca : Option Addr) (L : List Ck), e = .returned (.tuple #[.slice ca cn cc, .int .i64 (pkSalv l).2]) ∧ OwnCks w' w.heap.size ca cn cc L ∧ L.map Ck.d = (pkSalv l).1 ∧ Ext w w' ∧ cn ≤ l.length
theorem isPack_len {l : List UInt8} (h : isPack l = true) : 4 ≤ l.length := by
  unfold isPack at h
  have := congrArg List.length (beq_iff_eq.1 h)
  simp [magicB] at this
  omega

set_option maxRecDepth 100000 in
set_option maxHeartbeats 1000000 in
theorem Salvage_any (a : Option Addr) (n c : Nat) (l : List UInt8) (w : World) (hb : Bytes w a n c l) (hn : n ≤ 100000000) :
    Calls Try.prog 16 #[.slice a n c] w (SalvPost w l) := by
  by_cases hp : isPack l = true
  · have h4 := isPack_len hp
    have hl := hb.len
    have es : pkSalv l = salv l := by unfold pkSalv; rw [if_pos hp]
    have ES := Lib.hid es
    have h4n : 4 ≤ n := by omega
    clear es hl h4
    go_enter Try.func16, Try.ntmps16
    go_wp2_with (first
      | (go_at_call 39; (with_reducible refine (newReader_yes a n c l _ hb (by omega) hp).mono ?_); rintro e w1 ⟨g, rfl, hR1, hg1, hx1⟩)
      | (go_at_call 40; (with_reducible refine (frames_any g a n c l w _ hx1 hg1 hb hn h4n hR1).mono ?_); rintro e w2 ⟨at2, good, cn, cc, ca, L, rfl, hR2, hO2, hx2, hsv, hgl, hcg, -⟩))
    have hA2 := hR2.cells
    refine wp_region_e [] (.qs [0, 1, 2, 3, 4, 5, 6, 7, 8, 9] .nil) (by kernel_rfl) (by kernel_rfl) ?_
    iterate 10 ((refine wpY_q rfl rfl _ (fun w' hx' => by go_simp; try rfl) ?_; go_simp))
    refine wpY_nil ?_
    go_wp2
    go_ret2
    have es2 : (pkSalv l).2 = good := by rw [ES.out, hsv]
    exact ⟨cn, cc, ca, L, by rw [es2]; rfl, hO2.ext (Ext.drew' _), by rw [ES.out, hsv], hx2.trans' (Ext.drew' _), by omega⟩
  · have hp' := Bool.eq_false_iff.2 hp
    have es : pkSalv l = ([], 0) := by unfold pkSalv; rw [if_neg hp]
    have ES := Lib.hid es
    clear es hp
    go_enter Try.func16, Try.ntmps16
    go_wp2_with (go_at_call 39; (with_reducible refine (newReader_no a n c l _ hb (by omega) hp').mono ?_); rintro e w1 ⟨rfl, rfl⟩)
    go_ret2
    exact ⟨0, 0, none, [], by rw [ES.out]; rfl, OwnCks.nil _ _, by rw [ES.out]; rfl, Below.refl _ _, by omega⟩
end Go.Proofs.Ytncdcpaelecikaa
