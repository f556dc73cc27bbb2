/-
  The walk of the law CodecUnlike.
-/
import Derived.Test.YteifhemamedlgaaLawA0
import Derived.Test.YteifhemamedlgaaMathB
import Derived.StillTailTactics
namespace Go.Proofs.Yteifhemamedlgaa
open Go.RowKit

theorem Bytes.length_pos {w : World} {a : Option Addr} {n c : Nat} {v : Nat} (h : Bytes w a n c (enc v)) (hv : v ≤ 18446744073709551615) : 1 ≤ n ∧ n ≤ 10 := by
  have e := h.len; have := enc_pos v; have := enc_le10 hv; omega

set_option maxRecDepth 100000 in
set_option maxHeartbeats 4000000 in
theorem Unlike_walk (v u : Nat) (w : World) (hv : (v : Int) ≤ 18446744073709551615) (hu : (u : Int) ≤ 18446744073709551615) :
    Calls Try.prog 4 #[.int .u64 v, .int .u64 u] w (LawPost w) := by
  by_cases hvu : v = u
  · subst hvu
    go_enter Try.func4, Try.ntmps4
    have t1 : True := trivial
    go_wp2_with (first
      | (go_at_call 15; have _t := t1; (with_reducible refine (PutUint_any none 0 0 [] v _ (Bytes.nil _) hv (by decide)).mono ?_); rintro e w1 ⟨a1, n1, c1, rfl, ho1, hx1⟩; clear t1; rw [List.nil_append] at ho1; have hb1 := Bytes.of_own ho1; have hn1 := hb1.length_pos (by omega); obtain ⟨hn1, hm1⟩ := hn1)
      | (go_at_call 15; (with_reducible refine (PutUint_any none 0 0 [] v _ (Bytes.nil _) hv (by decide)).mono ?_); rintro e w2 ⟨a2, n2, c2, rfl, ho2, hx2⟩; rw [List.nil_append] at ho2; have hb2 := Bytes.of_own ho2; have hn2 := hb2.length_pos (by omega); obtain ⟨hn2, hm2⟩ := hn2)
      | (go_at_call 17; (with_reducible refine (same_any a1 a2 _ _ _ _ _ _ _ (hb1.ext hx2) hb2).mono ?_); rintro e w7 ⟨rfl, rfl⟩)
      | (go_at_call 14; refine (awake_any _).mono ?_; rintro e w12 ⟨rfl, hx12⟩))
    go_ret
    exact ⟨rfl, (hx1.trans' hx2).trans' hx12⟩
  · have hne : ((v : Int) == u) = false := by simp; omega
    have hmono : v ≤ u → (enc v).length ≤ (enc u).length := enc_mono v u
    have hdiff : (enc v).take (min (enc v).length (enc u).length) ≠ (enc u).take (min (enc v).length (enc u).length) := fun h => hvu (enc_take (by omega) (by omega) h)
    have HM := Lib.hid hmono
    have HD := Lib.hid hdiff
    clear hmono hdiff hvu
    go_enter Try.func4, Try.ntmps4
    go_wp2_with (first
      | (go_at_call 15; (with_reducible refine (PutUint_any none 0 0 [] v _ (Bytes.nil _) hv (by decide)).mono ?_); rintro e w1 ⟨a1, n1, c1, rfl, ho1, hx1⟩; rw [List.nil_append] at ho1; have hb1 := Bytes.of_own ho1; have hn1 := hb1.length_pos (by omega); obtain ⟨hn1, hm1⟩ := hn1)
      | (go_at_call 15; (with_reducible refine (PutUint_any none 0 0 [] u _ (Bytes.nil _) hu (by decide)).mono ?_); rintro e w2 ⟨a2, n2, c2, rfl, ho2, hx2⟩; rw [List.nil_append] at ho2; have hb2 := Bytes.of_own ho2; have hn2 := hb2.length_pos (by omega); obtain ⟨hn2, hm2⟩ := hn2))
    case inl =>
      have hs1 := fun w => run_sl_hi (w := w) Try.elB a1 n1 c1 .i64 n2 (by have := hb1.row.le; omega)
      have hs2 := fun w => run_sl_hi (w := w) Try.elB a2 n2 c2 .i64 n2 (by have := hb2.row.le; omega)
      have hb1' := hb1.ext hx2
      have hB1 : Bytes w2.drew (subA a1 0 c1 1) n2 c1 ((enc v).take n2) := by
        have h := hb1'.row.sub 0 n2 (Nat.zero_le _) (by omega)
        exact ⟨by have := hb1'.len; simp; omega, by simpa using (Row.drew h)⟩
      have hB2 : Bytes w2.drew (subA a2 0 c2 1) n2 c2 ((enc u).take n2) := by
        have h := hb2.row.sub 0 n2 (Nat.zero_le _) (by omega)
        exact ⟨by have := hb2.len; simp; omega, by simpa using (Row.drew h)⟩
      have he : ((enc v).take n2 == (enc u).take n2) = false := by
        have e1 := hb1.len
        have e2 := hb2.len
        have h := HD.out
        rw [show min (enc v).length (enc u).length = n2 by omega] at h
        exact beq_eq_false_iff_ne.2 h
      have hsame := same_any _ _ _ _ _ _ _ _ _ hB1 hB2
      rw [he] at hsame
      have HS := Lib.hid hsame
      have hord : u < v ∨ n1 ≤ n2 := by
        have e1 := hb1.len
        have e2 := hb2.len
        have h := HM.out
        omega
      clear hsame he hb1' hB1 hB2
      have hlt : u < v := by omega
      · 
        refine wp_region_still_tail 21 (by kernel_rfl) (by kernel_rfl) ?_
        simp only [List.take_succ_cons, List.take_zero, List.drop_succ_cons, List.drop_zero]
        repeat (with_reducible refine wpStill_step (fun K hK => ?_); go_simp; with_reducible refine hK _ ?_; clear hK K)
        with_reducible refine wpStill_step (fun K hK => ?_)
        go_simp
        refine ⟨_, HS.out.mono (fun e w'' h => ⟨h.1, h.2.symm⟩), hK _ ?_⟩
        clear hK K
        repeat (with_reducible refine wpStill_step (fun K hK => ?_); go_simp; with_reducible refine hK _ ?_; clear hK K)
        refine wpStill_nil ?_
        change wpList _ _ _ _ _ w2.drew
        go_wp2_with (go_at_call 14; refine (awake_any _).mono ?_; rintro e w12 ⟨rfl, hx12⟩)
        go_ret
        exact ⟨rfl, ((hx1.trans' hx2).trans' (Ext.drew' _)).trans' hx12⟩
    case inr =>
      have hs1 := fun w => run_sl_hi (w := w) Try.elB a1 n1 c1 .i64 n1 (by have := hb1.row.le; omega)
      have hs2 := fun w => run_sl_hi (w := w) Try.elB a2 n2 c2 .i64 n1 (by have := hb2.row.le; omega)
      have hb1' := hb1.ext hx2
      have hB1 : Bytes w2.drew (subA a1 0 c1 1) n1 c1 ((enc v).take n1) := by
        have h := hb1'.row.sub 0 n1 (Nat.zero_le _) (by omega)
        exact ⟨by have := hb1'.len; simp; omega, by simpa using (Row.drew h)⟩
      have hB2 : Bytes w2.drew (subA a2 0 c2 1) n1 c2 ((enc u).take n1) := by
        have h := hb2.row.sub 0 n1 (Nat.zero_le _) (by omega)
        exact ⟨by have := hb2.len; simp; omega, by simpa using (Row.drew h)⟩
      have he : ((enc v).take n1 == (enc u).take n1) = false := by
        have e1 := hb1.len
        have e2 := hb2.len
        have h := HD.out
        rw [show min (enc v).length (enc u).length = n1 by omega] at h
        exact beq_eq_false_iff_ne.2 h
      have hsame := same_any _ _ _ _ _ _ _ _ _ hB1 hB2
      rw [he] at hsame
      have HS := Lib.hid hsame
      have hord : u < v ∨ n1 ≤ n2 := by
        have e1 := hb1.len
        have e2 := hb2.len
        have h := HM.out
        omega
      clear hsame he hb1' hB1 hB2
      by_cases hlt : u < v
      all_goals
        refine wp_region_still_tail 21 (by kernel_rfl) (by kernel_rfl) ?_
        simp only [List.take_succ_cons, List.take_zero, List.drop_succ_cons, List.drop_zero]
        repeat (with_reducible refine wpStill_step (fun K hK => ?_); go_simp; with_reducible refine hK _ ?_; clear hK K)
        with_reducible refine wpStill_step (fun K hK => ?_)
        go_simp
        refine ⟨_, HS.out.mono (fun e w'' h => ⟨h.1, h.2.symm⟩), hK _ ?_⟩
        clear hK K
        repeat (with_reducible refine wpStill_step (fun K hK => ?_); go_simp; with_reducible refine hK _ ?_; clear hK K)
        refine wpStill_nil ?_
        change wpList _ _ _ _ _ w2.drew
        go_wp2_with (go_at_call 14; refine (awake_any _).mono ?_; rintro e w12 ⟨rfl, hx12⟩)
        go_ret
        exact ⟨rfl, ((hx1.trans' hx2).trans' (Ext.drew' _)).trans' hx12⟩

end Go.Proofs.Yteifhemamedlgaa
