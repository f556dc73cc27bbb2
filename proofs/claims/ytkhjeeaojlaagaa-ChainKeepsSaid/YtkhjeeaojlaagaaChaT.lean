/-
  The law ChainDrops.
-/
import Derived.Test.YtkhjeeaojlaagaaChn4
namespace Go.Proofs.Ytkhjeeaojlaagaa
open Go.RowKit

theorem drC_len {L LR : List Ln} {k er : Int} (h : drC L k = (LR, er)) : LR.length ≤ L.length := by
  unfold drC at h
  split at h
  · split at h
    · simp only [Prod.mk.injEq] at h; rw [← h.1]; exact Nat.zero_le _
    · simp only [Prod.mk.injEq] at h; rw [← h.1, drF_length, List.length_drop]; omega
  · simp only [Prod.mk.injEq] at h; rw [← h.1]; exact Nat.zero_le _
def TwoRel (w : World) (i : Value) (wr : World) : Prop := ∃ j : Nat, i = .int .i64 j ∧ j ≤ 2 ∧ Ext w wr
/-- Two numbers. -/
theorem two_get {x y : Int} {j : Nat} (hj : j < 2) (hx : i64B x) (hy : i64B y) : ∃ v, ([.int .i64 x, .int .i64 y] : List Value)[j]? = some (.int .i64 v) ∧ i64B v := by
  match j, hj with
  | 0, _ => exact ⟨x, rfl, hx⟩
  | 1, _ => exact ⟨y, rfl, hy⟩
theorem two_cell {w : World} {b o j : Nat} {xs : List Value} {v : Value} (hk : xs[j]? = some v) (hc : ∀ i, i < 1 → w.cell? ⟨b, o + i, none⟩ = xs[j * 1 + i]?) : w.cell? ⟨b, o, none⟩ = some v := by
  have h := hc 0 (by decide)
  rw [Nat.add_zero, Nat.mul_one, Nat.add_zero, hk] at h
  exact h

set_option maxRecDepth 100000 in
set_option maxHeartbeats 4000000 in
theorem ChainDrops_walk (a1 : Option Addr) (n1 c1 : Nat) (L1 : List Int) (first : Int) (w : World)
    (hl : Row w a1 n1 c1 1 (L1.map (Value.int .i64))) (hli : ∀ x ∈ L1, -9223372036854775808 ≤ x ∧ x ≤ 9223372036854775807) (ha1 : ∀ p, a1 = some p → 0 < n1 → p.block < w.heap.size)
    (h0 : -9223372036854775808 ≤ first) (h1 : first ≤ 9223372036854775807) :
    Calls Try.prog 6 #[.slice a1 n1 c1, .int .i64 first] w (LawPost w) := by
  have ht : Tape (w.alloc (.cells #[.slice a1 n1 c1, .int .i64 0] 25)) w.heap.size 0 :=
    ⟨a1, n1, c1, L1, heap_alloc_new w _, hl.ext (Ext.alloc' _ _), ha1, hli⟩
  have hx1 : Ext w (w.alloc (.cells #[.slice a1 n1 c1, .int .i64 0] 25)) := Ext.alloc' _ _
  have HT := Lib.hid ht
  clear ht
  go_enter Try.func6, Try.ntmps6
  go_wp2_with (first
    | (go_at_call 10; (with_reducible refine (made27_7 w.heap.size 0 _ HT.out (by omega)).mono ?_); rintro e w2 ⟨a, m, c, k2, L, S, rfl, hM, hm, ht2, hk2, hg2⟩; have HM := Lib.hid hM; clear hM)
    | (go_at_call 18; (with_reducible refine (Next_any w.heap.size k2 ((m : Int) + 3) _ ht2 (by omega) (by omega)).mono ?_); rintro e w3 ⟨u, rfl, hu, ht3, hg3⟩; have hu' : u < m + 3 := (by unfold Below1 at hu; omega); clear hu)
    | fail)
  have hal := Ext.alloc' w3 (.cells #[.int .i64 first, .int .i64 ((u : Int) - 1)] 3)
  have HX4 := Lib.hid ((hx1.rd (grown_trans' hg2 hg3) (Nat.le_refl _)).trans' hal)
  have HL4 := Lib.hid ((HM.out.own.kept hg3 HT.out.lt).links.ext hal)
  have HR4 := Lib.hid (Row.new w3 #[.int .i64 first, .int .i64 ((u : Int) - 1)] 3 2 1 rfl (by decide))
  have HI := Lib.hid (show i64B first from ⟨h0, h1⟩)
  have HU := Lib.hid (show i64B ((u : Int) - 1) from ⟨by omega, by omega⟩)
  clear ht2 ht3 hg2 hg3 hx1 hal
  go_loopw [8] (TwoRel (w3.alloc (.cells #[.int .i64 first, .int .i64 ((u : Int) - 1)] 3))) (fun i _ => 2 - (intOf i).toNat)
  case atStart => exact ⟨0, rfl, by omega, Below.refl _ _⟩
  case round =>
    obtain ⟨j, rfl, hj, hx5⟩ := hrel
    rename World => w5
    by_cases hjn : j < 2
    rotate_left
    · obtain rfl : j = 2 := by omega
      go_wp2_with (first
        | (go_at_call 15; (with_reducible refine (known27_any _).mono ?_); rintro e w8 ⟨rfl, hx8⟩)
        | fail)
      go_ret
      exact ⟨rfl, (HX4.out.trans' hx5).trans' hx8⟩
    obtain ⟨v, hv, hvb⟩ := two_get hjn HI.out HU.out
    obtain ⟨LR, er, hdr⟩ : ∃ LR er, drC (L.map Lk.d) v = (LR, er) := ⟨_, _, rfl⟩
    have hlr := drC_len hdr
    rw [List.length_map, HM.out.own.len] at hlr
    have HD := Lib.hid hdr
    have HV := Lib.hid hv
    have HVB := Lib.hid hvb
    have HL5 := Lib.hid (HL4.out.ext hx5)
    have HR5 := Lib.hid (HR4.out.ext hx5)
    clear hdr hv hvb
    go_wp2_with (first
      | ((with_reducible refine atSlot 36 ?_); refine wpList_of_wp rfl (owp_ix (o := ⟨some 36, _, _, _, _, _⟩) _ _ rfl Try.elI rfl HR5.out j rfl rfl hjn ?_); intro b8 o8 hc8; have hd9 := two_cell HV.out hc8; clear hc8)
      | (go_at_call 26; (with_reducible refine (chDrop_any a m c L v _ HL5.out (by omega) HVB.out HD.out).mono ?_); rintro e w6 ⟨a6, n6, c6, L6, rfl, hO6, hD6, hx6⟩; have HO6 := Lib.hid hO6; have HD6 := Lib.hid hD6; clear hO6 hD6 hd9)
      | ((with_reducible refine atSlot 45 ?_); refine wpList_of_wp rfl (owp_ix (o := ⟨some 45, _, _, _, _, _⟩) _ _ rfl Try.elI rfl (HR5.out.ext hx6) j rfl rfl hjn ?_); intro b9 o9 hc9; have hd10 := two_cell HV.out hc9; clear hc9)
      | (go_at_call 27; (with_reducible refine (refDrop27_any a m c L v _ (HL5.out.ext hx6) (by omega) HVB.out HD.out).mono ?_); rintro e w7 ⟨a7, n7, c7, L7, rfl, hO7, hD7, hx7⟩; have HO7 := Lib.hid hO7; have HD7 := Lib.hid hD7; have hn6 : n6 ≤ 7 := (by rw [← HO6.out.len, ← List.length_map (f := Lk.d), HD6.out]; omega); have hn7 : n7 ≤ 7 := (by rw [← hO7.len, ← List.length_map (f := Lk.d), HD7.out]; omega); clear hO7 hD7 hd10)
      | (go_at_call 16; (with_reducible refine (refSame27_any a6 n6 c6 L6 a7 n7 c7 L7 _ (HO6.out.links.ext hx7) HO7.out.links (by omega) (by omega) (by rw [HD6.out, HD7.out])).mono ?_); rintro e w9 ⟨rfl, hx9⟩)
      | fail)
    go_roundw
    case rel => exact ⟨j + 1, by go_num, by omega, ((hx5.trans' hx6).trans' hx7).trans' hx9⟩
    case measure => simp [intOf]; omega
end Go.Proofs.Ytkhjeeaojlaagaa
