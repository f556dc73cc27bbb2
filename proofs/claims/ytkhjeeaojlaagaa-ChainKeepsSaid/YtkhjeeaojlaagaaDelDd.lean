/-
  Decode and Encode, the reference's.
-/
import Derived.Test.YtkhjeeaojlaagaaDelDc
import Derived.Test.YtkhjeeaojlaagaaDelZ
namespace Go.Proofs.Ytkhjeeaojlaagaa
open Go.RowKit

theorem TakeUint_as (a : Option Addr) (n c : Nat) (l : List UInt8) (at_ : Int) (w : World) (hb : Bytes w a n c l) (hn : n ≤ 140737488355328) {v : Nat} {nx e : Int} (h : uintRes l at_ = (v, nx, e)) :
    Calls Try.prog 64 #[.slice a n c, .int .i64 at_] w (Ret (.tuple #[.int .u64 v, .int .i64 nx, .int .i64 e]) w) := by
  have := TakeUint_any a n c l at_ w hb hn
  rw [h] at this
  exact this
theorem take_num (m : Nat) (l : List UInt8) (at_ : Nat) (ha : at_ ≤ l.length) :
    (numF m (l.drop at_) = none ∧ ((∃ er : Int, er ≠ 0 ∧ uintRes l at_ = (0, 0, er)) ∨ (∃ u P : Nat, uintRes l at_ = (u, (P : Int), 0) ∧ m < u ∧ u ≤ 18446744073709551615))) ∨
    (∃ v j P : Nat, numF m (l.drop at_) = some (v, j) ∧ uintRes l at_ = (v, (P : Int), 0) ∧ P = at_ + j ∧ v ≤ m ∧ 0 < j ∧ at_ + j ≤ l.length) := by
  rcases uintRes_cases_in l at_ ha with ⟨u, j, h1, h2, h3, h4, h5⟩ | h1 | h1
  · by_cases hv : u ≤ m
    · exact .inr ⟨u, j, at_ + j, numF_mk h5 hv, by rw [h1]; rfl, rfl, hv, h3, h4⟩
    · exact .inl ⟨by unfold numF; rw [h5, if_pos (.inr (by omega))], .inr ⟨u, at_ + j, by rw [h1]; rfl, by omega, h2⟩⟩
  all_goals
    refine .inl ⟨?_, .inl ⟨_, by decide, h1⟩⟩
    unfold numF
    rw [if_pos]
    left
    intro h0
    rw [uintRes_in ha, if_pos h0] at h1
    simp at h1
theorem decD_none {base : Int} {l : List UInt8} {M j0 j k : Nat} {D : List Dp} (hn : numF 4096 l = some (M, j0)) (hops : opsF j (l.drop j0) = some (D, k)) (hj : j < M) (ho : opF (l.drop (j0 + k)) = none) : decDRes base l = ([], 264) := by
  have h1 : opsF (j + 1) (l.drop j0) = none := by rw [opsF_snoc, hops]; simp only [List.drop_drop, ho]
  have h2 := opsF_stop h1 (M - (j + 1))
  rw [show j + 1 + (M - (j + 1)) = M by omega] at h2
  unfold decDRes decD
  rw [hn]
  simp only [h2]
def DdRel (w : World) (N j0 : Nat) (l : List UInt8) (at_ out i : Value) (wr : World) : Prop :=
  ∃ (j c k P : Nat) (a : Option Addr) (L : List Od), i = .int .u64 j ∧ out = .slice a j c ∧ at_ = .int .i64 P ∧ P = j0 + k ∧ j ≤ N ∧ OwnOps wr w.heap.size a j c L ∧ (∀ y ∈ L, y.n ≤ 1048576) ∧ opsF j (l.drop j0) = some (L.map Od.d, k) ∧ Ext w wr

set_option maxRecDepth 100000 in
set_option maxHeartbeats 8000000 in
theorem refDecode_any (base : Int) (a : Option Addr) (n c : Nat) (l : List UInt8) (w : World) (hb : Bytes w a n c l) (hn : n ≤ 140737488355328) {D : List Dp} {er : Int} (hr : decDRes base l = (D, er)) :
    Calls Try.prog 52 #[.int .i64 base, .slice a n c] w (DecR w D er) := by
  have hl := hb.len
  have HR := Lib.hid hr
  clear hr
  rcases take_num 4096 l 0 (Nat.zero_le _) with ⟨hnum, hcase⟩ | ⟨M, j0, P0, hnum, hu0, hP0, hM, hj0, hj1⟩
  · rw [List.drop_zero] at hnum
    have hd : decDRes base l = ([], 264) := by unfold decDRes decD; rw [hnum]
    have hr := HR.out
    rw [hd] at hr
    cases hr
    rcases hcase with ⟨e0, he0, hu⟩ | ⟨u, P, hu, hmu, hub⟩
    · obtain ⟨q1, q2⟩ := neI he0
      have HU := Lib.hid hu
      clear hnum hd hu he0
      go_enter Try.func52, Try.ntmps52
      go_wp2_with (first
        | (go_at_call 64; (with_reducible refine (TakeUint_as a n c l 0 _ hb hn HU.out).mono ?_); rintro e w2 ⟨rfl, rfl⟩)
        | fail)
      go_ret2
      exact ⟨none, 0, 0, [], rfl, OwnOps.nil _ _, rfl, (fun y hy => by cases hy), Below.refl _ _⟩
    · have HU := Lib.hid hu
      have hd1 : decide ((4096 : Int) < u) = true := decide_eq_true (by omega)
      clear hnum hd hu
      go_enter Try.func52, Try.ntmps52
      go_wp2_with (first
        | (go_at_call 64; (with_reducible refine (TakeUint_as a n c l 0 _ hb hn HU.out).mono ?_); rintro e w2 ⟨rfl, rfl⟩)
        | fail)
      go_ret2
      exact ⟨none, 0, 0, [], rfl, OwnOps.nil _ _, rfl, (fun y hy => by cases hy), Below.refl _ _⟩
  rw [List.drop_zero] at hnum
  rw [Nat.zero_add] at hP0
  subst hP0
  have HU0 := Lib.hid hu0
  have HNUM := Lib.hid hnum
  have HB := Lib.hid hb
  clear hnum hu0 hb
  go_enter Try.func52, Try.ntmps52
  go_wp2_with (first
    | (go_at_call 64; (with_reducible refine (TakeUint_as a n c l 0 _ HB.out hn HU0.out).mono ?_); rintro e w2 ⟨rfl, rfl⟩)
    | fail)
  go_loopw [7, 9, 10] (DdRel w M P0 l) (fun _ _ i _ => M - (intOf i).toNat)
  case atStart => exact ⟨0, 0, 0, P0, none, [], rfl, rfl, rfl, rfl, Nat.zero_le _, OwnOps.nil _ _, (fun y hy => by cases hy), rfl, Below.refl _ _⟩
  case round =>
    obtain ⟨j, oc, k, P, oa, L, rfl, rfl, rfl, hP, hj, hO, hL, hops, hX⟩ := hrel
    rename World => w3
    have hkl := opsF_le _ _ _ _ hops
    rw [List.length_drop] at hkl
    have HOPS := Lib.hid hops
    have HP := Lib.hid hP
    have hPl : P ≤ n := by omega
    clear hops hkl hP
    by_cases hjM : j < M
    rotate_left
    · obtain rfl : j = M := by omega
      obtain ⟨e0, n0, hck⟩ : ∃ e0 n0, ckRes base (L.map Od.d) = (n0, e0) := ⟨_, _, rfl⟩
      have hdec : decD base l = if e0 = 0 ∧ P = l.length then some (L.map Od.d) else none := by
        unfold decD
        rw [HNUM.out]
        simp only [HOPS.out]
        rw [hck, HP.out]
      have hr := HR.out
      unfold decDRes at hr
      rw [hdec] at hr
      have HCK := Lib.hid hck
      clear hdec hck
      by_cases he : e0 = 0
      rotate_left
      · rw [if_neg (fun h => he h.1)] at hr
        cases hr
        obtain ⟨q3, q4⟩ := neI he
        clear he
        go_wp2_with (first
          | (go_at_call 50; (with_reducible refine (refCheck_any base oa j oc L _ hO.ops (by omega) HCK.out).mono ?_); rintro e w4 ⟨rfl, hx4⟩)
          | fail)
        go_ret2
        exact ⟨none, 0, 0, [], rfl, OwnOps.nil _ _, rfl, (fun y hy => by cases hy), hX.trans' hx4⟩
      · subst he
        by_cases hat : P = n
        rotate_left
        · rw [if_neg (by omega)] at hr
          cases hr
          obtain ⟨q1, q2⟩ := neI (x := (P : Int)) (y := (n : Int)) (by omega)
          clear hat
          go_wp2_with (first
            | (go_at_call 50; (with_reducible refine (refCheck_any base oa j oc L _ hO.ops (by omega) HCK.out).mono ?_); rintro e w4 ⟨rfl, hx4⟩)
            | fail)
          go_ret2
          exact ⟨none, 0, 0, [], rfl, OwnOps.nil _ _, rfl, (fun y hy => by cases hy), hX.trans' hx4⟩
        · rw [if_pos ⟨rfl, by omega⟩] at hr
          cases hr
          obtain ⟨q1, q2⟩ := eqI (x := (P : Int)) (y := (n : Int)) (by omega)
          clear hat
          go_wp2_with (first
            | (go_at_call 50; (with_reducible refine (refCheck_any base oa j oc L _ hO.ops (by omega) HCK.out).mono ?_); rintro e w4 ⟨rfl, hx4⟩)
            | fail)
          go_ret2
          exact ⟨oa, j, oc, L, rfl, hO.ext hx4, rfl, hL, hX.trans' hx4⟩
    have hno : opF (l.drop P) = none → decDRes base l = ([], 264) := fun h => decD_none HNUM.out HOPS.out hjM (by rw [← HP.out]; exact h)
    have hsn : ∀ o i, opF (l.drop P) = some (o, i) → opsF (j + 1) (l.drop P0) = some (L.map Od.d ++ [o], k + i) := fun o i h => by
      rw [opsF_snoc, HOPS.out]
      simp only [List.drop_drop]
      rw [← HP.out, h]
    have HNO := Lib.hid hno
    have HSN := Lib.hid hsn
    have hB3 := HB.out.ext hX
    have hd0 : decide ((j : Int) < M) = true := decide_eq_true (by omega)
    clear hno hsn
    rcases take_num 2097153 l P (by omega) with ⟨hn1, hcase⟩ | ⟨v, i1, P1, hn1, hu1, hP1, hv, hi1, hi2⟩
    · have hr := HR.out
      rw [HNO.out (by unfold opF; rw [hn1])] at hr
      cases hr
      rcases hcase with ⟨e0, he0, hu⟩ | ⟨u, P', hu, hmu, hub⟩
      · obtain ⟨q1, q2⟩ := neI he0
        have HU := Lib.hid hu
        clear hn1 hu he0
        go_wp2_with (first
          | (go_at_call 64; (with_reducible refine (TakeUint_as a n c l P _ hB3 hn HU.out).mono ?_); rintro e w4 ⟨rfl, rfl⟩)
          | fail)
        go_ret2
        exact ⟨none, 0, 0, [], rfl, OwnOps.nil _ _, rfl, (fun y hy => by cases hy), hX⟩
      · have HU := Lib.hid hu
        have hd1 : decide ((2097153 : Int) < u) = true := decide_eq_true (by omega)
        clear hn1 hu
        go_wp2_with (first
          | (go_at_call 64; (with_reducible refine (TakeUint_as a n c l P _ hB3 hn HU.out).mono ?_); rintro e w4 ⟨rfl, rfl⟩)
          | fail)
        go_ret2
        exact ⟨none, 0, 0, [], rfl, OwnOps.nil _ _, rfl, (fun y hy => by cases hy), hX⟩
    have HU1 := Lib.hid hu1
    have hof : opF (l.drop P) = if v % 2 = 1 then (match numF 1048576 (l.drop P1) with | none => none | some (f, i) => some (⟨f, ((v / 2 : Nat) : Int), []⟩, i1 + i)) else if l.length - P1 < v / 2 then none else some (⟨0, 0, (l.drop P1).take (v / 2)⟩, i1 + v / 2) := by
      unfold opF
      rw [hn1]
      simp only [List.drop_drop, List.length_drop]
      rw [hP1, Nat.sub_sub]
      by_cases h : v % 2 = 1
      · rw [if_pos h, if_pos h]
        cases numF 1048576 (List.drop (P + i1) l) <;> rfl
      · rw [if_neg h, if_neg h]
    have HOF := Lib.hid hof
    have HP1 := Lib.hid hP1
    have hP1l : P1 ≤ n := by omega
    have hd2 : decide ((2097153 : Int) < v) = false := decide_eq_false (by omega)
    clear hn1 hu1 hof hP1
    by_cases hodd : v % 2 = 1
    · have hof := HOF.out
      rw [if_pos hodd] at hof
      obtain ⟨q1, q2⟩ := eqI (x := (v : Int) % 2) (y := 1) (by omega)
      have t1 : True := trivial
      rcases take_num 1048576 l P1 (by omega) with ⟨hn2, hcase⟩ | ⟨f, i2, P2, hn2, hu2, hP2, hf, hi3, hi4⟩
      · have hr := HR.out
        rw [hn2] at hof
        rw [HNO.out hof] at hr
        cases hr
        rcases hcase with ⟨e0, he0, hu⟩ | ⟨u, P', hu, hmu, hub⟩
        · obtain ⟨q3, q4⟩ := neI he0
          have HU := Lib.hid hu
          clear hn2 hu he0 hof hodd
          go_wp2_with (first
            | (go_at_call 64; have _t := t1; (with_reducible refine (TakeUint_as a n c l P _ hB3 hn HU1.out).mono ?_); rintro e w4 ⟨rfl, rfl⟩; clear t1)
            | (go_at_call 64; (with_reducible refine (TakeUint_as a n c l P1 _ hB3 hn HU.out).mono ?_); rintro e w5 ⟨rfl, rfl⟩)
            | fail)
          go_ret2
          exact ⟨none, 0, 0, [], rfl, OwnOps.nil _ _, rfl, (fun y hy => by cases hy), hX⟩
        · have HU := Lib.hid hu
          have hd3 : decide ((1048576 : Int) < u) = true := decide_eq_true (by omega)
          clear hn2 hu hof hodd
          go_wp2_with (first
            | (go_at_call 64; have _t := t1; (with_reducible refine (TakeUint_as a n c l P _ hB3 hn HU1.out).mono ?_); rintro e w4 ⟨rfl, rfl⟩; clear t1)
            | (go_at_call 64; (with_reducible refine (TakeUint_as a n c l P1 _ hB3 hn HU.out).mono ?_); rintro e w5 ⟨rfl, rfl⟩)
            | fail)
          go_ret2
          exact ⟨none, 0, 0, [], rfl, OwnOps.nil _ _, rfl, (fun y hy => by cases hy), hX⟩
      · rw [hn2] at hof
        simp only at hof
        have hs := HSN.out _ _ hof
        have HS := Lib.hid hs
        have HU2 := Lib.hid hu2
        have HP2 := Lib.hid hP2
        have hd3 : decide ((1048576 : Int) < f) = false := decide_eq_false (by omega)
        obtain ⟨y, hy⟩ : ∃ y : Od, y = ⟨f, ((v / 2 : Nat) : Int), none, 0, 0, []⟩ := ⟨_, rfl⟩
        have HY := Lib.hid hy
        clear hn2 hu2 hof hodd hs hP2 hy
        go_wp2_with (first
          | (go_at_call 64; have _t := t1; (with_reducible refine (TakeUint_as a n c l P _ hB3 hn HU1.out).mono ?_); rintro e w4 ⟨rfl, rfl⟩; clear t1)
          | (go_at_call 64; (with_reducible refine (TakeUint_as a n c l P1 _ hB3 hn HU2.out).mono ?_); rintro e w5 ⟨rfl, rfl⟩)
          | ((with_reducible refine atSlot 70 ?_); have hz3 := hX.size; have hrow := Row.new w3 #[.int .i64 f, .int .i64 ((v : Int) / 2), .slice none 0 0] 83 1 3 rfl (by decide); refine wpList_of_wp rfl (owp_app (o := ⟨some 70, _, _, _, _, _⟩) _ _ rfl Try.elO rfl (own_ext hO.own (Ext.alloc' w3 _)) rfl hrow (fun u hu => od_oneCell [⟨f, (v : Int) / 2, none, 0, 0, []⟩] u (by simpa [Od.cells] using hu)) (by omega) (by unfold maxLen; omega) (Nat.le_trans hz3 (Ext.alloc' w3 _).size) ?_); intro a7 c7 w7 ho7 hg7)
          | fail)
        have hE6 := Ext.alloc' w3 (.cells #[.int .i64 f, .int .i64 ((v : Int) / 2), .slice none 0 0] 83)
        go_roundw
        case rel =>
          have hycell : y.cells = [.int .i64 f, .int .i64 ((v : Int) / 2), .slice none 0 0] := by
            rw [HY.out]; show [Value.int .i64 f, Value.int .i64 ((v / 2 : Nat) : Int), Value.slice none 0 0] = _
            rw [show ((v / 2 : Nat) : Int) = (v : Int) / 2 by omega]
          have hO7 := OwnOps.push (y := y) (hO.ext hE6) hg7 (by rw [hycell]; exact ho7) (by rw [HY.out]; exact own_nil _ _ _ _) (by rw [HY.out]; exact ⟨Nat.zero_le _, (i64_of (by omega) (by omega) : i64B (f : Int)), i64_of (by show -9223372036854775808 ≤ ((v / 2 : Nat) : Int); omega) (by show ((v / 2 : Nat) : Int) ≤ 9223372036854775807; omega)⟩)
          refine ⟨j + 1, c7, k + (i1 + i2), P2, a7, L ++ [y], by go_num, rfl, rfl, by rw [HP2.out, HP1.out, HP.out]; omega, hjM, hO7, (fun z hz => ?_), ?_, ?_⟩
          · rcases List.mem_append.1 hz with hz | hz
            · exact hL z hz
            · obtain rfl : z = y := by simpa using hz
              rw [HY.out]; exact Nat.zero_le _
          · rw [HS.out, List.map_append]
            congr 3
            rw [HY.out]; rfl
          · exact below_app (hX.trans' hE6) (own_ext hO.own hE6) hg7 (hX.trans' hE6).size
        case measure => simp [intOf]; omega
    · have hof := HOF.out
      rw [if_neg hodd] at hof
      obtain ⟨q1, q2⟩ := neI (x := (v : Int) % 2) (y := 1) (by omega)
      by_cases hsh : l.length - P1 < v / 2
      · rw [if_pos hsh] at hof
        have hr := HR.out
        rw [HNO.out hof] at hr
        cases hr
        have hd3 : decide ((n : Int) - (P1 : Int) < (v : Int) / 2) = true := decide_eq_true (by omega)
        clear hof hodd
        go_wp2_with (first
          | (go_at_call 64; (with_reducible refine (TakeUint_as a n c l P _ hB3 hn HU1.out).mono ?_); rintro e w4 ⟨rfl, rfl⟩)
          | fail)
        go_ret2
        exact ⟨none, 0, 0, [], rfl, OwnOps.nil _ _, rfl, (fun y hy => by cases hy), hX⟩
      · rw [if_neg hsh] at hof
        have hd3 : decide ((n : Int) - (P1 : Int) < (v : Int) / 2) = false := decide_eq_false (by omega)
        have hs := HSN.out _ _ hof
        have HS := Lib.hid hs
        have hsv : P1 + v / 2 ≤ n := by omega
        clear hof hodd hs hsh
        go_wp2_with (first
          | (go_at_call 64; (with_reducible refine (TakeUint_as a n c l P _ hB3 hn HU1.out).mono ?_); rintro e w4 ⟨rfl, rfl⟩)
          | ((with_reducible refine atSlot 86 ?_); refine wpList_of_wp rfl (owp_sl_lh (o := ⟨some 86, _, _, _, _, _⟩) _ _ _ rfl Try.elB rfl hB3.row P1 (v / 2) rfl rfl rfl (by omega) hsv ?_); intro a8 hr8; have hb8 := Bytes.sub hr8)
          | ((with_reducible refine atSlot 87 ?_); refine wpList_of_wp rfl (owp_clone (o := ⟨some 87, _, _, _, _, _⟩) _ _ rfl Try.elB rfl rfl hb8.row (u8_oneCell _) (by omega) ?_); intro a5 c5 w5 ho5 hx5)
          | ((with_reducible refine atSlot 90 ?_); have hz5 := (hX.trans' hx5).size; have hrow := Row.new w5 #[.int .i64 0, .int .i64 0, .slice a5 (v / 2) c5] 83 1 3 rfl (by decide); refine wpList_of_wp rfl (owp_app (o := ⟨some 90, _, _, _, _, _⟩) _ _ rfl Try.elO rfl (own_ext (hO.ext hx5).own (Ext.alloc' w5 _)) rfl hrow (fun u hu => od_oneCell [⟨0, 0, a5, v / 2, c5, []⟩] u (by simpa [Od.cells] using hu)) (by omega) (by unfold maxLen; omega) (Nat.le_trans hz5 (Ext.alloc' w5 _).size) ?_); intro a7 c7 w7 ho7 hg7)
          | fail)
        have hE6 := Ext.alloc' w5 (.cells #[.int .i64 0, .int .i64 0, .slice a5 (v / 2) c5] 83)
        go_roundw
        case rel =>
          have hO7 := OwnOps.push (y := ⟨0, 0, a5, v / 2, c5, (l.drop P1).take (v / 2)⟩) ((hO.ext hx5).ext hE6) hg7 ho7 (own_ext (own_base ho5 hX.size) hE6) ⟨by show v / 2 ≤ _; omega, (i64_of (by decide) (by decide) : i64B 0), (i64_of (by decide) (by decide) : i64B 0)⟩
          refine ⟨j + 1, c7, k + (i1 + v / 2), P1 + v / 2, a7, _, by go_num, rfl, by go_num, by rw [HP1.out, HP.out]; omega, hjM, hO7, (fun z hz => ?_), ?_, ?_⟩
          · rcases List.mem_append.1 hz with hz | hz
            · exact hL z hz
            · obtain rfl : z = _ := by simpa using hz
              show v / 2 ≤ _
              omega
          · rw [HS.out, List.map_append]; rfl
          · exact below_app ((hX.trans' hx5).trans' hE6) (own_ext (hO.ext hx5).own hE6) hg7 ((hX.trans' hx5).trans' hE6).size
        case measure => simp [intOf]; omega

set_option maxRecDepth 100000 in
set_option maxHeartbeats 2000000 in
theorem refEncode_any (base : Int) (a : Option Addr) (n c : Nat) (L : List Od) (w : World) (hL : Ops w a n c L) (hn : n ≤ 140737488355328) {l : List UInt8} {er : Int} (hr : encDRes base (L.map Od.d) = (l, er)) :
    Calls Try.prog 33 #[.int .i64 base, .slice a n c] w (BytesRes w l er) := by
  obtain ⟨n0, e0, hck⟩ : ∃ n0 e0, ckRes base (L.map Od.d) = (n0, e0) := ⟨_, _, rfl⟩
  unfold encDRes at hr
  rw [hck] at hr
  simp only at hr
  by_cases he : e0 = 0
  rotate_left
  · rw [if_neg he] at hr
    cases hr
    obtain ⟨q1, q2⟩ := neI he
    have HCK := Lib.hid hck
    clear hck he
    go_enter Try.func33, Try.ntmps33
    go_wp2_with (go_at_call 50; (with_reducible refine (refCheck_any base a n c L _ hL hn HCK.out).mono ?_); rintro e w1 ⟨rfl, hx1⟩)
    go_ret2
    exact ⟨none, 0, 0, rfl, own_nil _ _ _ _, hx1⟩
  subst he
  simp only [if_true, Prod.mk.injEq] at hr
  obtain ⟨rfl, rfl⟩ := hr
  have hsize := encD_size hck
  obtain ⟨hok, -⟩ := ckRes_ok hck
  have hfi : (L.map Od.d).all fineB = true := by
    rw [List.all_eq_true]
    intro o ho
    exact fineB_iff.2 (hok o ho).fine
  have HCK := Lib.hid hck
  have HB := fun w' hx => refBytes_any a n c L w' (hL.ext hx) hn hfi (by omega)
  have HBB := Lib.hid HB
  clear hck hfi hok HB
  go_enter Try.func33, Try.ntmps33
  go_wp2_with (first
    | (go_at_call 50; (with_reducible refine (refCheck_any base a n c L _ hL hn HCK.out).mono ?_); rintro e w1 ⟨rfl, hx1⟩)
    | (go_at_call 51; (with_reducible refine (HBB.out _ hx1).mono ?_); rintro e w2 ⟨a2, m2, c2, rfl, ho2, hx2⟩)
    | fail)
  go_ret2
  exact ⟨a2, m2, c2, rfl, own_base ho2 hx1.size, hx1.trans' hx2⟩
end Go.Proofs.Ytkhjeeaojlaagaa
