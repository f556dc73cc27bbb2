/-
  builder.add of a literal.
-/
import Derived.Test.YtkhjeeaojlaagaaDelG
namespace Go.Proofs.Ytkhjeeaojlaagaa
open Go.RowKit

set_option maxRecDepth 100000 in
set_option maxHeartbeats 4000000 in
theorem addLit_any (g : Nat) (a : Option Addr) (n c : Nat) (L : List Od) (m : Nat) (la : Option Addr) (ln lc : Nat) (l : List UInt8) (w : World) (hB : Bld w g a n c L m) (hn : n ≤ 1000000000) (hLf : ∀ y ∈ L, y.d.fine) (hLn : ∀ y ∈ L, y.n ≤ 1000000000000)
    (hl : Bytes w la ln lc l) (h0 : 0 < ln) (hln : ln ≤ 1000000000000) :
    Calls Try.prog 44 #[.pointer (some ⟨g, 0, none⟩), .iface 77 (.agg #[.slice la ln lc])] w (BldR w g (addD (L.map Od.d) ⟨0, 0, l⟩)) := by
  obtain ⟨D, hD⟩ : ∃ D, D = addD (L.map Od.d) ⟨0, 0, l⟩ := ⟨_, rfl⟩
  rw [← hD]
  have HD := Lib.hid hD
  clear hD
  have hlit : (⟨0, 0, l⟩ : Dp).literal = true := by
    cases l with
    | nil => have := hl.len; simp at this; omega
    | cons x l => simp [Dp.literal]
  have HLIT := Lib.hid hlit
  clear hlit
  have hbc := fun j => cell_of_row w g j _ _ _ hB.box
  have hbf := fun j => frozen_none hB.box j
  have TL := Try.ta.lc
  have TT := Try.ta.ll
  have hgw : g ≤ w.heap.size := Nat.le_of_lt (Nat.lt_of_lt_of_le hB.gm hB.mh)
  go_enter Try.func44, Try.ntmps44
  go_upto_if 12 with fail
  go_cut [4] from 12 (fun s4 w' => ∃ p, s4 = .pointer p ∧ LastP a n p ∧ Ext w w')
  case first =>
    by_cases h0 : 0 < n
    rotate_left
    · have hd : decide ((0 : Int) < n) = false := decide_eq_false (by omega)
      go_wp2
      go_meet
      exact ⟨none, rfl, .inl ⟨by omega, rfl⟩, Below.refl _ _⟩
    · have hd : decide ((0 : Int) < n) = true := decide_eq_true (by omega)
      obtain ⟨A, cur, rfl, hA, hcur, -, -⟩ := own_some hB.own h0
      have hwn : IntKind.i64.wrap ((n : Int) - 1) = ((n - 1 : Nat) : Int) := by rw [IntKind.wrap_i64]; omega
      have hAk : ∀ w' j, Ext w w' → w'.cell? ⟨g, j, none⟩ = #[.slice (some ⟨A, 0, none⟩) n c][j]? := fun w' j hx => cell_of_row _ _ _ _ _ _ (hx.heap' hB.box)
      clear hcur
      go_wp2
      refine wp_region_e [] (.qs [0, 1, 2, 3, 4, 5, 6, 7, 8, 9, 10, 11] .nil) (by kernel_rfl) (by kernel_rfl) ?_
      iterate 10 ((refine wpY_q rfl rfl _ (fun w' hx' => by go_simp; try rfl) ?_; go_simp))
      refine wpY_ixp rfl rfl (.tmp 16) (.tmp 22) rfl Try.elO rfl (n - 1) rfl rfl (by omega) ?_
      ((refine wpY_q rfl rfl _ (fun w' hx' => by go_simp; try rfl) ?_; go_simp))
      refine wpY_nil ?_
      clear hAk hwn
      go_wp2
      go_meet
      exact ⟨_, rfl, .inr ⟨h0, A, rfl, rfl⟩, Ext.drew' _⟩
  case rest =>
    obtain ⟨p, rfl, hp, hx1⟩ := hcut
    rename World => w1
    have hB1 := hB.ext hx1
    have hl1 := hl.ext hx1
    clear hbc hbf hB hl
    have hx2 := Ext.alloc' w1 (.cells #[.slice la ln lc] 77)
    go_upto_region 11 with fail
    go_cut [85] from 77 (fun s85 w' => ∃ q, s85 = .bool q ∧ (q = true → ∃ L0 y A, L = L0 ++ [y] ∧ y.z = 0 ∧ a = some ⟨A, 0, none⟩ ∧ p = some ⟨A, (n - 1) * 3, none⟩) ∧ (q = false → D = L.map Od.d ++ [⟨0, 0, l⟩]) ∧ Ext w1 w' ∧ w'.heap[w1.heap.size]? = some (.cells #[.slice la ln lc] 77 (0, 0)))
    case first =>
      have hbw := heap_alloc_new w1 (.cells #[.slice la ln lc] 77)
      have HBW := Lib.hid hbw
      clear hbw
      rcases hp with ⟨h0', rfl⟩ | ⟨h0', A, rfl, rfl⟩
      · have hL0 : L = [] := List.eq_nil_of_length_eq_zero (by rw [hB1.len, h0'])
        have HL0 := Lib.hid hL0
        clear hL0 h0'
        go_wp2
        go_meet
        exact ⟨false, rfl, (fun h => by cases h), (fun _ => by rw [HD.out, HL0.out]; exact addD_nil _ (.inr HLIT.out)), hx2, HBW.out⟩
      · obtain ⟨L0, y, rfl⟩ : ∃ L0 y, L = L0 ++ [y] := by
          rcases List.eq_nil_or_concat L with h | ⟨A, y, h⟩
          · have := hB1.len; rw [h] at this; simp at this; omega
          · exact ⟨A, y, by simpa using h⟩
        have hyf := hLf y (by simp)
        have HYF := Lib.hid hyf
        clear hyf
        generalize w1.alloc (.cells #[.slice la ln lc] 77) = w2 at hx2 HBW ⊢
        have hc1 : w2.cell? ⟨A, (n - 1) * 3 + 1, none⟩ = some (.int .i64 y.z) := hB1.at_last.2.2 _ 1 hx2 (by omega)
        by_cases hyz : y.z = 0
        · obtain ⟨q1, q2⟩ := eqI hyz
          have HYZ := Lib.hid hyz
          clear hyz
          go_wp2
          go_meet
          exact ⟨true, rfl, (fun _ => ⟨L0, y, A, rfl, HYZ.out, rfl, rfl⟩), (fun h => by cases h), hx2, HBW.out⟩
        · obtain ⟨q1, q2⟩ := neI hyz
          have HYZ := Lib.hid hyz
          clear hyz
          go_wp2
          go_meet
          exact ⟨false, rfl, (fun h => by cases h), (fun _ => by rw [HD.out, List.map_append]; exact addD_new HYF.out (.inr HLIT.out) (fun h => by have h1 := h.1; simp only [Dp.literal, Bool.and_eq_true, decide_eq_true_eq] at h1; exact HYZ.out h1.1.1) (fun h => by simp [Dp.copies] at h)), hx2, HBW.out⟩
    case rest =>
      obtain ⟨q, rfl, hq1, hq2, hx3, hbx⟩ := hcut
      rename World => w3
      have hB3 := hB1.ext hx3
      have hl3 := hl1.ext hx3
      clear hx2 hl1
      cases q with
      | true =>
        obtain ⟨L0, y, A, rfl, hyz, rfl, rfl⟩ := hq1 rfl
        clear hq1 hq2
        have HYZ := Lib.hid hyz
        have hyf := hLf y (by simp)
        have HYF := Lib.hid hyf
        clear hyz hyf
        obtain ⟨hnl, hgA, hce⟩ := hB3.at_last
        have hyn := hLn y (by simp)
        have hlast := hB3.last y (by rw [List.getLast?_concat])
        obtain ⟨curA, hA⟩ := own_heap hB3.own (b := A) rfl
        have hapA : ∀ w', w3.grownBy w' (blockOf y.a) → w'.heap[A]? = some (.cells curA 83 (0, 0)) := fun w' hg => by
          rw [hg.block A (Array.getElem?_eq_some_iff.1 hA).1 (own_apart hlast hA (by decide))]; exact hA
        have hapX : ∀ w', w3.grownBy w' (blockOf y.a) → w'.heap[w1.heap.size]? = some (.cells #[.slice la ln lc] 77 (0, 0)) := fun w' hg => by
          rw [hg.block _ (Array.getElem?_eq_some_iff.1 hbx).1 (own_apart hlast hbx (by decide))]; exact hbx
        have hc2 : ∀ w', w3.grownBy w' (blockOf y.a) → w'.cell? ⟨A, (n - 1) * 3 + 2, none⟩ = some (.slice y.a y.n y.c) := fun w' hg => by
          have h1 := hce w3 2 (Below.refl _ _) (by omega)
          rw [cell_of_row w3 A _ _ _ _ hA] at h1
          rw [cell_of_row w' A _ _ _ _ (hapA w' hg), h1]; rfl
        have hbk : ∀ w' j, w3.grownBy w' (blockOf y.a) → w'.cell? ⟨w1.heap.size, j, none⟩ = #[.slice la ln lc][j]? := fun w' j hx => cell_of_row _ _ _ _ _ _ (hapX w' hx)
        have HNL := Lib.hid hnl
        have HNA := Lib.hid (own_apart hlast hA (by decide))
        clear hce hnl hapX hapA hA
        go_wp2
        refine wp_region_z (fun w' => w3.grownBy w' (blockOf y.a)) (grown_drewO w3 _) [8, 9, 10] (.qs [0, 1, 2, 3, 4, 5, 6] (.l 7 (.l 8 (.l 9 (.l 10 .nil))))) (by kernel_rfl) (by kernel_rfl) ?_
        iterate 7 ((refine wpZ_q rfl rfl _ (fun w' hx' => by go_simp; try rfl) ?_; go_simp))
        refine wpZ_l rfl rfl (owp_app _ _ rfl Try.elB rfl (own_ext hlast (Ext.drew' _)) rfl (hl3.ext (Ext.drew' _)).row (u8_oneCell _) (by omega) (by unfold maxLen; omega) hB3.mh ?_)
        intro a5 c5 w5 ho5 hg5
        have hg35 : w3.grownBy w5 (blockOf y.a) := ⟨hg5.os, hg5.tape, hg5.output, hg5.size, hg5.block⟩
        refine ⟨fun _ => hg35, ?_⟩
        have hL5 := hB3.toL.grown hg35 (fun k hk => ⟨(own_block hlast k hk).1, fun e => HNA.out (by rw [hk, e]; rfl)⟩)
        go_simp
        refine wpZ_l rfl rfl ?_
        go_simp
        refine wpZ_l rfl rfl ?_
        go_simp
        refine wpZ_l rfl rfl (owp_st1 28 _ _ rfl A ((n - 1) * 3 + 2) (.slice a5 (y.n + ln) c5) rfl rfl rfl ?_ (by kernel_rfl) rfl ?_)
        · exact own_there hL5.own (by have := HNL.out; omega)
        · refine ⟨(fun h => by cases h), wpZ_nil ?_⟩
          clear hbk hc2 hg5
          go_wp2
          (try simp only [Exit.inBlock, Exit.then]); refine bodyPost_ret (results_none rfl _ _ _) rfl ?_
          have hlit2 : y.d.literal = true := by
            rcases HYF.out with h | h
            · have h1 := h.1
              simp only [Dp.copies, Bool.and_eq_true, decide_eq_true_eq] at h1
              have h2 : (1 : Int) ≤ y.z := h1.1
              have := HYZ.out; omega
            · exact h
          have hyf0 : y.f = 0 := by simp only [Dp.literal, Bool.and_eq_true, decide_eq_true_eq] at hlit2; exact hlit2.1.2
          have hB6 := hL5.setLast (i := 2) (y' := ⟨y.f, y.z, a5, y.n + ln, c5, y.l ++ l⟩) (v := .slice a5 (y.n + ln) c5) (by omega) rfl ⟨by rw [List.map_append]; exact ho5, by show y.n + ln ≤ _; omega, by unfold i64B; show -9223372036854775808 ≤ y.f ∧ y.f ≤ _; omega, by unfold i64B; show -9223372036854775808 ≤ y.z ∧ y.z ≤ _; have := HYZ.out; omega⟩
          refine ⟨rfl, ((((hx1.trans' hx3).mono hgw).grown hg35 (Nat.le_of_lt (Nat.lt_of_lt_of_le hB3.gm hB3.mh)) (fun k hk => Nat.le_trans (Nat.le_of_lt hB3.gm) (own_block hlast k hk).1)).setCell (p := ⟨A, (n - 1) * 3 + 2, none⟩) (by show g ≤ A; omega) _), ((KeepB.of_ext (hx1.trans' hx3)).grown hg35 (fun k hk => by obtain ⟨cur, hcur⟩ := own_heap hlast hk; exact ⟨cur, _, hcur, .inr (.inr rfl)⟩)).grown (grown_setCell' _ _ _ _) (fun k hk => by cases hk; obtain ⟨cur, hcur⟩ := own_heap hL5.own (b := A) rfl; exact ⟨cur, _, hcur, .inr (.inl rfl)⟩), _, _, _, _, _, hB6, ?_⟩
          rw [HD.out, List.map_append, List.map_append, show [y].map Od.d = [y.d] from rfl, addD_lit hlit2 HLIT.out]
          simp [Od.d, hyf0, HYZ.out]
      | false =>
        have HQ := Lib.hid (hq2 rfl)
        clear hq1 hq2
        have hgb : g < w3.heap.size := Nat.lt_of_lt_of_le hB3.gm hB3.mh
        have hbb : w1.heap.size < w3.heap.size := (Array.getElem?_eq_some_iff.1 hbx).1
        go_wp2
        have hap : ∀ (k : Nat) (cs : Array Value) (t : TypeId), w3.heap[k]? = some (.cells cs t (0, 0)) → t ≠ 83 → ∀ w', w3.grownBy w' (blockOf a) → w'.heap[k]? = some (.cells cs t (0, 0)) := fun k cs t hk ht w' hg => by
          rw [hg.block k ((Array.getElem?_eq_some_iff.1 hk).1) (own_apart hB3.own hk ht)]; exact hk
        have hgk : ∀ w' j, w3.grownBy w' (blockOf a) → w'.cell? ⟨g, j, none⟩ = #[.slice a n c][j]? := fun w' j hx => cell_of_row _ _ _ _ _ _ (hap _ _ _ hB3.box (by decide) w' hx)
        have hbk : ∀ w' j, w3.grownBy w' (blockOf a) → w'.cell? ⟨w1.heap.size, j, none⟩ = #[.slice la ln lc][j]? := fun w' j hx => cell_of_row _ _ _ _ _ _ (hap _ _ _ hbx (by decide) w' hx)
        have HAP := Lib.hid hap
        clear hap
        refine wp_region_z (fun w' => w3.grownBy w' (blockOf a)) (grown_drewO w3 _) [11, 12, 13] (.qs [0, 1, 2, 3, 4, 5, 6] (.l 7 (.qs [8] (.l 9 (.l 10 (.l 11 (.l 12 (.l 13 .nil)))))))) (by kernel_rfl) (by kernel_rfl) ?_
        iterate 7 ((refine wpZ_q rfl rfl _ (fun w' hx' => by go_simp; try rfl) ?_; go_simp))
        refine wpZ_l rfl rfl ?_
        go_simp
        refine (Clone_any la ln lc l _ (hl3.ext (Ext.drew' _)) (by omega)).mono ?_
        rintro e w4 ⟨a4, n4, c4, rfl, ho4, hx4⟩
        obtain rfl : n4 = ln := by rw [← own_len ho4]; exact hl3.len
        have E4 : Ext w3 w4 := (Ext.drew' _).trans' hx4
        have hg4 : w3.grownBy w4 (blockOf a) := ⟨E4.os, E4.tape, E4.output, E4.size, fun k hk _ => E4.block k hk⟩
        refine ⟨hg4, ?_⟩
        go_simp
        ((refine wpZ_q rfl rfl _ (fun w' hx' => by go_simp; try rfl) ?_; go_simp))
        refine wpZ_l rfl rfl ?_
        go_simp
        have E5 : Ext w3 (w4.alloc (.cells #[.int .i64 0, .int .i64 0, .slice a4 n4 c4] 83)) := E4.trans' (Ext.alloc' w4 _)
        have ho5 := own_ext ho4 (Ext.alloc' w4 (.cells #[.int .i64 0, .int .i64 0, .slice a4 n4 c4] 83))
        have hrow := Row.new w4 #[.int .i64 0, .int .i64 0, .slice a4 n4 c4] 83 1 3 rfl (by decide)
        refine ⟨⟨E5.os, E5.tape, E5.output, E5.size, fun k hk _ => E5.block k hk⟩, ?_⟩
        generalize w4.alloc (.cells #[.int .i64 0, .int .i64 0, .slice a4 n4 c4] 83) = w5 at E5 ho5 hrow ⊢
        refine wpZ_l rfl rfl (owp_app _ _ rfl Try.elO rfl (own_ext hB3.own E5) rfl hrow (fun u hu => od_oneCell [⟨0, 0, a4, n4, c4, l⟩] u (by simpa [Od.cells] using hu)) (by omega) (by unfold maxLen; omega) (by have := E5.size; omega) ?_)
        intro a6 c6 w6 ho6 hg6
        have hg36 : w3.grownBy w6 (blockOf a) := ⟨hg6.os.trans E5.os, hg6.tape.trans E5.tape, hg6.output.trans E5.output, Nat.le_trans E5.size hg6.size, fun k hk hka => (hg6.block k (Nat.lt_of_lt_of_le hk E5.size) hka).trans (E5.block k hk)⟩
        refine ⟨fun _ => hg36, ?_⟩
        have ho7 : w6.ownsRow w3.heap.size 5 1 (.slice a4 n4 c4) n4 (l.map u8) := by
          cases hb : blockOf a with
          | none => rw [hb] at hg6; exact own_ext ho5 (Ext.of_grown hg6)
          | some b =>
            rw [hb] at hg6
            obtain ⟨cur, hcur⟩ := own_heap (own_ext hB3.own E5) hb
            exact own_other ho5 hg6 (fun e => own_apart ho5 hcur (by decide) e.symm)
        go_simp
        refine wpZ_l rfl rfl ?_
        go_simp
        refine wpZ_l rfl rfl ?_
        go_simp
        have hb6 := HAP.out g _ _ hB3.box (by decide) w6 hg36
        refine wpZ_l rfl rfl (owp_st1 46 _ _ rfl g 0 (.slice a6 (n + 1) c6) rfl rfl rfl ?_ (by kernel_rfl) rfl ?_)
        · exact there_one (v := .slice a n c) (by rw [cell_of_row w6 g 0 _ _ _ hb6]; rfl) (frozen_none hb6 0)
        · refine ⟨(fun h => by cases h), wpZ_nil ?_⟩
          have hB7 := hB3.push (y := ⟨0, 0, a4, n4, c4, l⟩) hg36 (by rw [List.flatMap_append]; exact ho6) ⟨ho7, by show n4 ≤ _; omega, by unfold i64B; show -9223372036854775808 ≤ (0 : Int) ∧ (0 : Int) ≤ _; omega, by unfold i64B; show -9223372036854775808 ≤ (0 : Int) ∧ (0 : Int) ≤ _; omega⟩
          have HBX := Lib.hid hb6
          clear hbk hgk hb6
          refine bodyPost_end (results_none rfl _ _ _) rfl ?_
          refine ⟨rfl, ((((hx1.trans' hx3).mono hgw).grown hg36 (Nat.le_of_lt hgb) (fun k hk => Nat.le_of_lt (own_block hB3.own k hk).1)).setCell (p := ⟨g, 0, none⟩) (Nat.le_refl _) _), ((KeepB.of_ext (hx1.trans' hx3)).grown hg36 (fun k hk => by obtain ⟨cur, hcur⟩ := own_heap hB3.own hk; exact ⟨cur, _, hcur, .inr (.inl rfl)⟩)).grown (grown_setCell' _ _ _ _) (fun k hk => by cases hk; exact ⟨_, _, HBX.out, .inl rfl⟩), _, _, _, _, _, hB7, ?_⟩
          rw [HQ.out, List.map_append]; rfl
end Go.Proofs.Ytkhjeeaojlaagaa
