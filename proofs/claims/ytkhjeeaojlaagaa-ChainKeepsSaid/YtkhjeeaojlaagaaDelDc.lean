/-
  Decode, the program's.
-/
import Derived.Test.YtkhjeeaojlaagaaDelDb
namespace Go.Proofs.Ytkhjeeaojlaagaa
open Go.RowKit

theorem opsF_snoc : ∀ (n : Nat) (l : List UInt8), opsF (n + 1) l = match opsF n l with
    | none => none
    | some (os, i) => match opF (l.drop i) with
      | none => none
      | some (o, k) => some (os ++ [o], i + k)
  | 0, l => by
    simp only [opsF, List.drop_zero]
    cases opF l with
    | none => rfl
    | some p => obtain ⟨o, j⟩ := p; simp
  | n + 1, l => by
    have ih := opsF_snoc n
    have e : ∀ m, opsF (m + 1) l = match opF l with
      | none => none
      | some (o, j) => match opsF m (l.drop j) with
        | none => none
        | some (os, i) => some (o :: os, j + i) := fun m => rfl
    rw [e (n + 1), e n]
    cases ho : opF l with
    | none => rfl
    | some p =>
      obtain ⟨o, j⟩ := p
      simp only
      rw [ih (l.drop j)]
      cases hs : opsF n (l.drop j) with
      | none => rfl
      | some q =>
        obtain ⟨os, i⟩ := q
        simp only [List.drop_drop]
        cases hq : opF (l.drop (j + i)) with
        | none => rfl
        | some r => obtain ⟨o2, k⟩ := r; simp [Nat.add_assoc]
theorem opsF_stop {n : Nat} {l : List UInt8} (h : opsF n l = none) : ∀ m, opsF (n + m) l = none
  | 0 => h
  | m + 1 => by rw [← Nat.add_assoc, opsF_snoc, opsF_stop h m]
/-- Ops in new memory, and an error. -/
def DecR (w : World) (D : List Dp) (er : Int) (e : Ending) (w' : World) : Prop :=
  ∃ a n c L, e = .returned (.tuple #[.slice a n c, .int .i64 er]) ∧ OwnOps w' w.heap.size a n c L ∧ L.map Od.d = D ∧ (∀ y ∈ L, y.n ≤ 1048576) ∧ Ext w w'
def DcRel (w1 : World) (B g : Nat) (V : Value) (N j0 : Nat) (l : List UInt8) (fl : Bool) (out i : Value) (wr : World) : Prop :=
  ∃ (j c k : Nat) (a : Option Addr) (L : List Od), i = .int .i64 j ∧ out = .slice a j c ∧ j ≤ N ∧ OwnOps wr B a j c L ∧ (∀ y ∈ L, y.n ≤ 1048576) ∧ opsF j (l.drop j0) = some (L.map Od.d, k) ∧ Dr wr g V ((j0 + k : Nat) : Int) fl ∧ w1.grownBy wr (some g)

set_option maxRecDepth 100000 in
set_option maxHeartbeats 8000000 in
theorem Decode_any (base : Int) (a : Option Addr) (n c : Nat) (l : List UInt8) (w : World) (hb : Bytes w a n c l) (hn : n ≤ 140737488355328) {D : List Dp} {er : Int} (hr : decDRes base l = (D, er)) :
    Calls Try.prog 54 #[.int .i64 base, .slice a n c] w (DecR w D er) := by
  have hl := hb.len
  have hx1 := Ext.alloc' w (.cells #[.slice a n c, .int .i64 0, .bool false] 107)
  have hb1 : Dr (w.alloc (.cells #[.slice a n c, .int .i64 0, .bool false] 107)) w.heap.size (.slice a n c) 0 false := heap_alloc_new w _
  have hs1 : (w.alloc (.cells #[.slice a n c, .int .i64 0, .bool false] 107)).heap.size = w.heap.size + 1 := World.size_alloc _ _
  obtain ⟨w1, hw1⟩ : ∃ w1, w1 = w.alloc (.cells #[.slice a n c, .int .i64 0, .bool false] 107) := ⟨_, rfl⟩
  rw [← hw1] at hx1 hb1 hs1
  have HW1 := Lib.hid hw1
  have hB1 := hb.ext hx1
  clear hw1
  obtain ⟨N, at2, fl, hv⟩ : ∃ N at2 fl, numV (numF 4096 (l.drop 0)) 0 = (N, at2, fl) := ⟨_, _, _, rfl⟩
  have hnu : Calls Try.prog 65 #[.pointer (some ⟨w.heap.size, 0, none⟩), .int .i64 4096] w1 (NumR w.heap.size (.slice a n c) w1 N at2 fl) := number_any w.heap.size a n c 0 4096 l w1 hb1 hB1 hn (Nat.zero_le _) (by decide) hv
  rw [List.drop_zero] at hv
  obtain ⟨M, j0, hN, hat, hM, hj0, hfT, hfF⟩ : ∃ M j0 : Nat, N = M ∧ at2 = j0 ∧ M ≤ 4096 ∧ j0 ≤ l.length ∧ (fl = true → M = 0 ∧ decD base l = none) ∧ (fl = false → 0 < n ∧ numF 4096 l = some (M, j0)) := by
    cases hq : numF 4096 l with
    | none =>
      rw [hq] at hv
      cases hv
      exact ⟨0, 0, rfl, rfl, by decide, Nat.zero_le _, fun _ => ⟨rfl, by unfold decD; rw [hq]⟩, fun h => by cases h⟩
    | some p =>
      obtain ⟨v, j⟩ := p
      rw [hq] at hv
      cases hv
      obtain ⟨-, h1, h2, h3⟩ := numF_some hq
      exact ⟨v, j, rfl, by rw [Nat.zero_add], h1, h3, (fun h => by cases h), fun _ => ⟨by omega, rfl⟩⟩
  subst hN hat
  have HNU := Lib.hid hnu
  have HR := Lib.hid hr
  have HFT := Lib.hid hfT
  have HFF := Lib.hid hfF
  have HB := Lib.hid hb
  clear hnu hr hv hB1 hfT hfF hb
  go_enter Try.func54, Try.ntmps54
  go_upto_region 2 with fail
  rw [← HW1.out]
  go_wp2_with (first
    | (go_at_call 65; (with_reducible refine HNU.out.mono ?_); rintro e w2 ⟨rfl, hR2, hg2⟩)
    | fail)
  go_loopw [7, 16] (DcRel w1 (w.heap.size + 1) w.heap.size (.slice a n c) M j0 l fl) (fun _ i _ => M - (intOf i).toNat)
  case atStart => exact ⟨0, 0, 0, none, [], rfl, rfl, Nat.zero_le _, OwnOps.nil _ _, (fun y hy => by cases hy), rfl, hR2, hg2⟩
  case round =>
    obtain ⟨j, oc, k, oa, L, rfl, rfl, hj, hO, hL, hops, hR, hg⟩ := hrel
    rename World => w3
    have hX := hx1.rd hg (Nat.le_refl _)
    clear hR2 hg2
    by_cases hjM : j < M
    rotate_left
    · obtain rfl : j = M := by omega
      have hc3 := fun i => hR.cells w3 i (Below.refl _ _)
      cases fl with
      | true =>
        obtain ⟨-, hd⟩ := HFT.out rfl
        have hr := HR.out
        unfold decDRes at hr
        rw [hd] at hr
        cases hr
        clear hO hL hops hd
        go_wp2
        go_ret2
        exact ⟨none, 0, 0, [], rfl, OwnOps.nil _ _, rfl, (fun y hy => by cases hy), hX⟩
      | false =>
        obtain ⟨hn0, hnum⟩ := HFF.out rfl
        obtain ⟨e0, n0, hck⟩ : ∃ e0 n0, ckRes base (L.map Od.d) = (n0, e0) := ⟨_, _, rfl⟩
        have hdec : decD base l = if e0 = 0 ∧ j0 + k = l.length then some (L.map Od.d) else none := by
          unfold decD
          rw [hnum]
          simp only [hops]
          rw [hck]
        have hr := HR.out
        unfold decDRes at hr
        rw [hdec] at hr
        have HCK := Lib.hid hck
        have hkl := opsF_le _ _ _ _ hops
        rw [List.length_drop] at hkl
        clear hops hnum hdec hck
        by_cases hat : j0 + k = n
        rotate_left
        · rw [if_neg (by omega)] at hr
          cases hr
          obtain ⟨q1, q2⟩ := neI (x := (j0 : Int) + (k : Int)) (y := (n : Int)) (by omega)
          clear hO hL
          go_wp2
          go_ret2
          exact ⟨none, 0, 0, [], rfl, OwnOps.nil _ _, rfl, (fun y hy => by cases hy), hX⟩
        · obtain ⟨q1, q2⟩ := eqI (x := (j0 : Int) + (k : Int)) (y := (n : Int)) (by omega)
          by_cases he : e0 = 0
          · rw [if_pos ⟨he, by omega⟩] at hr
            subst he
            cases hr
            clear hat
            go_wp2_with (first
              | (go_at_call 45; (with_reducible refine (Check_any base oa j oc L _ hO.ops (by omega) HCK.out).mono ?_); rintro e w4 ⟨rfl, hx4⟩)
              | fail)
            go_ret2
            exact ⟨oa, j, oc, L, rfl, (hO.ext hx4).base (Nat.le_succ _), rfl, hL, hX.trans' hx4⟩
          · rw [if_neg (fun h => he h.1)] at hr
            cases hr
            obtain ⟨q3, q4⟩ := neI he
            clear hat he
            go_wp2_with (first
              | (go_at_call 45; (with_reducible refine (Check_any base oa j oc L _ hO.ops (by omega) HCK.out).mono ?_); rintro e w4 ⟨rfl, hx4⟩)
              | fail)
            go_ret2
            exact ⟨none, 0, 0, [], rfl, OwnOps.nil _ _, rfl, (fun y hy => by cases hy), hX.trans' hx4⟩
    have hfl : fl = false := by
      cases fl with
      | true => have := (HFT.out rfl).1; omega
      | false => rfl
    subst hfl
    obtain ⟨hn0, hnum⟩ := HFF.out rfl
    have hne : ∀ p, a = some p → p.block ≠ w.heap.size := fun p hp => by have := HB.out.lt hn0 p hp; omega
    have hkl := opsF_le _ _ _ _ hops
    rw [List.length_drop] at hkl
    have hop := op_any w.heap.size a n c (j0 + k) l w3 hR (HB.out.ext hX) hn (by omega) hne
    have HOPS := Lib.hid hops
    have HNUM := Lib.hid hnum
    have HLN := Lib.hid hO.len
    clear hnum hops
    cases ho : opF (l.drop (j0 + k)) with
    | none =>
      rw [ho] at hop
      have hd : decD base l = none := by
        have h1 : opsF (j + 1) (l.drop j0) = none := by rw [opsF_snoc, HOPS.out]; simp only [List.drop_drop, ho]
        have h2 := opsF_stop h1 (M - (j + 1))
        rw [show j + 1 + (M - (j + 1)) = M by omega] at h2
        unfold decD
        rw [HNUM.out]
        simp only [h2]
      have hr := HR.out
      unfold decDRes at hr
      rw [hd] at hr
      cases hr
      have HOP := Lib.hid hop
      clear hop ho hd hO hL
      go_wp2_with (first
        | (go_at_call 66; (with_reducible refine HOP.out.mono ?_); rintro e w4 ⟨f4, z4, at4, rfl, hR4, hg4⟩; have hE5 := Ext.alloc' w4 (.cells #[.int .i64 f4, .int .i64 z4, .slice none 0 0] 83); have hR5 := hR4.ext hE5; have hX5 := (hX.rd hg4 (Nat.le_refl _)).trans' hE5; have hc5 := fun i => hR5.cells _ i (Below.refl _ _))
        | fail)
      go_ret2
      exact ⟨none, 0, 0, [], rfl, OwnOps.nil _ _, rfl, (fun y hy => by cases hy), hX5⟩
    | some p =>
      obtain ⟨o, i⟩ := p
      rw [ho] at hop
      have hsn : opsF (j + 1) (l.drop j0) = some (L.map Od.d ++ [o], k + i) := by rw [opsF_snoc, HOPS.out]; simp only [List.drop_drop, ho]
      have HOP := Lib.hid hop
      have HSN := Lib.hid hsn
      clear hop ho hsn
      go_wp2_with (first
        | (go_at_call 66; (with_reducible refine HOP.out.mono ?_); rintro e w4 ⟨y, rfl, hyd, hyo, hyn, hyf, hyz, hR4, hg4⟩; have hE5 := Ext.alloc' w4 (.cells #[.int .i64 y.f, .int .i64 y.z, .slice y.a y.n y.c] 83); have hR5 := hR4.ext hE5; have hG5 : w1.grownBy (w4.alloc (.cells #[.int .i64 y.f, .int .i64 y.z, .slice y.a y.n y.c] 83)) (some w.heap.size) := chg_trans (grown_trans' hg hg4) (grown_ext hE5) (fun b hb => by cases hb); have hO5 := (hO.kept hg4 (Nat.lt_succ_self _)).ext hE5; have hy5 := own_ext hyo hE5; have hc5 := fun i => hR5.cells _ i (Below.refl _ _); have hB5 : w.heap.size + 1 ≤ w3.heap.size := (by have := hg.size; omega))
        | ((with_reducible refine atSlot 27 ?_); clear hc5; have hz5 := hG5.size; have hs5 := World.size_alloc w4 (.cells #[.int .i64 y.f, .int .i64 y.z, .slice y.a y.n y.c] 83); rw [← hs5]; clear hs5; generalize w4.alloc (.cells #[.int .i64 y.f, .int .i64 y.z, .slice y.a y.n y.c] 83) = w5 at hR5 hG5 hO5 hy5 hz5 ⊢; have hrow := Row.new w5 #[.int .i64 y.f, .int .i64 y.z, .slice y.a y.n y.c] 83 1 3 rfl (by decide); refine wpList_of_wp rfl (owp_app (o := ⟨some 27, _, _, _, _, _⟩) _ _ rfl Try.elO rfl (own_ext hO5.own (Ext.alloc' w5 _)) rfl hrow (fun u hu => od_oneCell [y] u (by simpa [Od.cells] using hu)) (by omega) (by unfold maxLen; omega) (Nat.le_trans (by omega) (Ext.alloc' w5 _).size) ?_); intro a7 c7 w7 ho7 hg7)
        | fail)
      have hE6 := Ext.alloc' w5 (.cells #[.int .i64 y.f, .int .i64 y.z, .slice y.a y.n y.c] 83)
      have hgo := fun b (hb : blockOf oa = some b) => (own_block hO5.own b hb).1
      go_roundw
      case rel =>
        have hO7 := OwnOps.push (hO5.ext hE6) hg7 ho7 (own_ext (own_base hy5 hB5) hE6) ⟨by omega, hyf, hyz⟩
        have hR6 := hR5.ext hE6
        have hR7 : Dr w7 w.heap.size (.slice a n c) ((j0 + k + i : Nat) : Int) false := (hg7.block _ hR6.lt (fun e => by have := hgo _ e.symm; omega)).trans hR6
        refine ⟨j + 1, c7, k + i, a7, L ++ [y], by go_num, rfl, hjM, hO7, (fun z hz => ?_), ?_, ?_, ?_⟩
        · rcases List.mem_append.1 hz with hz | hz
          · exact hL z hz
          · obtain rfl : z = y := by simpa using hz
            exact hyn
        · rw [HSN.out, List.map_append, ← hyd]; rfl
        · rw [← Nat.add_assoc]; exact hR7
        · exact chg_trans (chg_trans hG5 (grown_ext hE6) (fun b hb => by cases hb)) hg7 (fun b hb => .inl (by have := hgo b hb; omega))
      case measure => simp [intOf]; omega
end Go.Proofs.Ytkhjeeaojlaagaa
