/-
  The reference's caches: Bytes.
-/
import Derived.Test.YtpiodpljiklfkaaRefD
namespace Go.Proofs.Ytpiodpljiklfkaa
open Go.RowKit

def byF (b : Bool) (E : List En) : Nat := if b = true then pinF E else sizeF E
theorem byF_app (b : Bool) (A D : List En) : byF b (A ++ D) = byF b A + byF b D := by
  unfold byF
  split
  · exact pinF_app A D
  · exact sizeF_app A D
theorem byF_le (b : Bool) (E : List En) : byF b E ≤ sizeF E := by
  unfold byF
  split
  · exact pinF_le E
  · exact Nat.le_refl _
theorem by_take (b : Bool) (E : List En) (j : Nat) : byF b (E.take j) ≤ sizeF E := by
  have h := byF_le b (E.take j)
  have h2 := sizeF_app (E.take j) (E.drop j)
  rw [List.take_append_drop] at h2
  omega
theorem re_data {w : World} {b o i : Nat} {L : List Re} {k : Re} (hk : L[i]? = some k) (hc : ∀ j, j < 4 → w.cell? ⟨b, o + j, none⟩ = (L.flatMap Re.cells)[i * 4 + j]?) : w.cell? ⟨b, o + 2, none⟩ = some (.slice k.a k.n k.c) :=
  re_range hk hc 2 _ rfl
def ByRel (w2 : World) (n : Nat) (p : Bool) (L : List Re) (S i : Value) (wr : World) : Prop :=
  ∃ (j t : Nat), i = .int .i64 j ∧ j ≤ n ∧ S = .int .i64 t ∧ t = byF p ((L.take j).map Re.en) ∧ Ext w2 wr

set_option maxRecDepth 100000 in
set_option maxHeartbeats 4000000 in
theorem refBytes38_any (B room : Nat) (a : Option Addr) (n c : Nat) (L : List Re) (p : Bool) (w : World) (h : Rc w B room a n c L) :
    Calls Try.prog 53 #[.agg #[.int .i64 room, .slice a n c], .bool p] w (NewNone (.int .i64 (byF p (L.map Re.en) : Nat)) w) := by
  have hln := h.len
  have hfew := h.few
  have HL := Lib.hid hln
  have HH := Lib.hid h
  have hfit : ∀ j, byF p ((L.take j).map Re.en) ≤ 1048576 := fun j => by
    rw [List.map_take]
    have h1 := by_take p (L.map Re.en) j
    have h2 := h.ok.fits
    have h3 := h.max
    omega
  have HFIT := Lib.hid hfit
  have hx1 := Ext.alloc' w (.cells #[.int .i64 room, .slice a n c] 28)
  have HX := Lib.hid hx1
  have hh1 := heap_alloc_new w (.cells #[.int .i64 room, .slice a n c] 28)
  have HR := Lib.hid (h.row.ext hx1)
  clear hln h hfit
  go_enter Try.func53, Try.ntmps53
  go_upto_region 1 with fail
  generalize w.alloc (.cells #[.int .i64 room, .slice a n c] 28) = w2 at hx1 hh1 HX HR ⊢
  have HB := Lib.hid fun w' (h : Ext w2 w') => cell_of_row w' w.heap.size 1 _ _ _ (h.heap' hh1)
  clear hx1 hh1
  go_wp2
  go_loopw [5, 6] (ByRel w2 n p L) (fun _ i _ => n - (intOf i).toNat)
  case atStart => exact ⟨0, 0, rfl, Nat.zero_le _, rfl, by cases p <;> rfl, Below.refl _ _⟩
  case round =>
    obtain ⟨j, t, rfl, hj, rfl, ht, hx⟩ := hrel
    rename World => w3
    have hcb := HB.out w3 hx
    by_cases hjn : j < n
    · obtain ⟨y, hy⟩ : ∃ y, L[j]? = some y := ⟨_, List.getElem?_eq_getElem (by have := HL.out; omega)⟩
      have htk : byF p ((L.take (j + 1)).map Re.en) = t + byF p [y.en] := by
        rw [List.take_add_one, hy, List.map_append, byF_app, ht]
        rfl
      have hle := HFIT.out (j + 1)
      rw [htk] at hle
      have hk := Re.keys HH.out (List.mem_of_getElem? hy)
      have HY := Lib.hid hy
      have HR3 := Lib.hid (HR.out.ext hx)
      by_cases hb : p = true ∧ y.p = 0
      · obtain ⟨rfl, hy0⟩ := hb
        have he : byF true [y.en] = 0 := by simp [byF, pinF, Re.en, hy0]
        rw [he] at htk
        have HTK := Lib.hid htk
        have hyp : (y.p : Int) = 0 := by omega
        clear hy htk hle hk ht he hy0
        go_wp2_with (first
          | ((with_reducible refine atSlot 20 ?_); refine wpList_of_wp rfl (owp_ix (o := ⟨some 20, _, _, _, _, _⟩) _ _ rfl Try.elRe rfl HR3.out j rfl rfl hjn ?_); intro b3 o3 hc3; have hp3 := re_pins HY.out hc3; rw [hyp] at hp3; clear hc3)
          | fail)
        go_roundw
        case rel => exact ⟨j + 1, t, by go_num, hjn, rfl, by rw [HTK.out, Nat.add_zero], hx⟩
        case measure => simp [intOf]; omega
      · have he : byF p [y.en] = y.n := by
          unfold byF
          split
          · rename_i hp
            have hpp : 0 < y.p := by
              rcases Nat.eq_zero_or_pos y.p with h0 | h0
              · exact absurd ⟨hp, h0⟩ hb
              · exact h0
            simp [pinF, Re.en, hpp, hk.2.2.1]
          · simp [sizeF, Re.en, hk.2.2.1]
        rw [he] at htk hle
        have HTK := Lib.hid htk
        cases p with
        | false =>
          clear hy htk hk ht he hb
          go_wp2_with (first
            | ((with_reducible refine atSlot 29 ?_); refine wpList_of_wp rfl (owp_ix (o := ⟨some 29, _, _, _, _, _⟩) _ _ rfl Try.elRe rfl HR3.out j rfl rfl hjn ?_); intro b4 o4 hc4; have hd4 := re_data HY.out hc4; clear hc4)
            | fail)
          go_roundw
          case rel => exact ⟨j + 1, t + y.n, by go_num, hjn, by go_num, by rw [HTK.out], hx⟩
          case measure => simp [intOf]; omega
        | true =>
          have hyp : 0 < y.p := by
            rcases Nat.eq_zero_or_pos y.p with h0 | h0
            · exact absurd ⟨rfl, h0⟩ hb
            · exact h0
          clear hy htk hk ht he hb
          go_wp2_with (first
            | ((with_reducible refine atSlot 20 ?_); refine wpList_of_wp rfl (owp_ix (o := ⟨some 20, _, _, _, _, _⟩) _ _ rfl Try.elRe rfl HR3.out j rfl rfl hjn ?_); intro b3 o3 hc3; have hp3 := re_pins HY.out hc3; clear hc3)
            | ((with_reducible refine atSlot 29 ?_); refine wpList_of_wp rfl (owp_ix (o := ⟨some 29, _, _, _, _, _⟩) _ _ rfl Try.elRe rfl HR3.out j rfl rfl hjn ?_); intro b4 o4 hc4; have hd4 := re_data HY.out hc4; clear hc4)
            | fail)
          go_roundw
          case rel => exact ⟨j + 1, t + y.n, by go_num, hjn, by go_num, by rw [HTK.out], hx⟩
          case measure => simp [intOf]; omega
    · obtain rfl : j = n := by omega
      have hv : t = byF p (L.map Re.en) := by rw [ht, List.take_of_length_le (by have := HL.out; omega)]
      have HV := Lib.hid hv
      clear hj hjn hv ht
      go_wp2
      go_ret
      exact ⟨by rw [← HV.out]; rfl, HX.out.trans' hx⟩
end Go.Proofs.Ytpiodpljiklfkaa
