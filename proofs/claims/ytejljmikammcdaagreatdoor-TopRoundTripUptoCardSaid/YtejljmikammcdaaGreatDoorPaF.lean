/-
  strings.Split and strings.Join at "/"; layer path: Split; layer pattern: split, Text.
-/
import Derived.Test.YtejljmikammcdaaGreatDoorPaE
import Derived.Lib.IndexLaws
import Derived.Lib.Join
namespace Go.Proofs.YtejljmikammcdaaGreatDoor
open Go.RowKit

theorem own_cell {w : World} {B e n c g j : Nat} {xs : List Value} (h : w.ownsRow B e 1 (.slice (some ⟨g, 0, none⟩) n c) n xs) (hj : j < n) : (∃ u, w.cell? ⟨g, j, none⟩ = some u) ∧ w.frozen? ⟨g, j, none⟩ = false := by
  have hl := h.1
  obtain ⟨cur, hc⟩ := own_heap h (b := g) rfl
  refine ⟨?_, frozen_none hc j⟩
  have := (Row.of_own h).cell _ rfl j _ (List.getElem?_eq_getElem (by rw [(Row.of_own h).len]; omega))
  rw [Addr.add_lit, Nat.zero_add] at this
  exact ⟨_, this⟩
theorem owp_ixp1 {P : Program} {w : World} {o : Oper} {f : Act} {K : Act → World → Prop} {Q : Exit → Act → World → Prop} (xO iO : Operand) {t : TypeId}
    (ho : o.op = .indexAddr t xO iO) {e s b : Nat} {z : Value} (E : Elem P t e s b z) {g n c : Nat} (hx : f.eval xO = .slice (some ⟨g, 0, none⟩) n c)
    (i : Nat) {k : IntKind} {I : Int} (hi : f.eval iO = .int k I) (hI : I = (i : Int)) (hin : i < n)
    (hk : K (f.put o.dst (.pointer (some ⟨g, i * s, none⟩))) w) : o.wp P f w K Q := by
  subst hI
  have hrun := run_indexAt_slice (P := P) (w := w) t ⟨g, 0, none⟩ n c k (i : Int) E.und'
  rw [if_pos (by omega), E.size] at hrun
  simp only [Result.andThen, Int.toNat_natCast, Addr.add_lit, Nat.zero_add] at hrun
  unfold Oper.wp
  simp [execOp, ho, hx, hi, hrun, Result.andThen]
  exact hk

theorem owp_sl_hi0 {P : Program} {w : World} {o : Oper} {f : Act} {K : Act → World → Prop} {Q : Exit → Act → World → Prop} (xO hO : Operand) {t : TypeId}
    (ho : o.op = .slice t xO none (some hO) none) {e s b : Nat} {z : Value} (E : Elem P t e s b z) {g n c : Nat} (hx : f.eval xO = .slice (some ⟨g, 0, none⟩) n c)
    (h : Nat) {kh : IntKind} {H : Int} (hh : f.eval hO = .int kh H) (hH : H = (h : Int)) (hhc : h ≤ c)
    (hk : K (f.put o.dst (.slice (some ⟨g, 0, none⟩) h c)) w) : o.wp P f w K Q := by
  subst hH
  have e : subA (some ⟨g, 0, none⟩) 0 c s = some ⟨g, 0, none⟩ := by
    unfold subA
    split
    · rfl
    · simp [Addr.add]
  unfold Oper.wp
  simp [execOp, ho, hx, hh, Instr.sliceAt, run_underlying E.und, run_sl_hi E (some ⟨g, 0, none⟩) n c kh h hhc, Result.andThen, e]
  exact hk
/-- Cutting at the first "/". -/
theorem split_index {s : Str} {m : Nat} (h : Lib.indexByte s 47 = m) : m < s.length ∧ splitS s = s.take m :: splitS (s.drop (m + 1)) ∧ s.count 47 = (s.drop (m + 1)).count 47 + 1 := by
  obtain ⟨h1, h2⟩ := Lib.indexByte_some h
  obtain ⟨hm, he⟩ := List.getElem?_eq_some_iff.1 h1
  have hs : s = s.take m ++ 47 :: s.drop (m + 1) := by
    conv => lhs; rw [← List.take_append_drop m s]
    rw [List.drop_eq_getElem_cons hm, he]
  have hno : ∀ c ∈ s.take m, c ≠ 47 := by
    intro c hc e
    obtain ⟨k, hk⟩ := List.getElem?_of_mem hc
    have hkm : k < m := by
      have := (List.getElem?_eq_some_iff.1 hk).1
      rw [List.length_take] at this; omega
    rw [List.getElem?_take_of_lt hkm, e] at hk
    exact h2 k hkm hk
  refine ⟨hm, ?_, ?_⟩
  · conv => lhs; rw [hs]
    exact splitS_app hno _
  · conv => lhs; rw [hs]
    rw [List.count_append, List.count_cons_self, List.count_eq_zero_of_not_mem (fun hc => hno 47 hc rfl)]
    omega
theorem split_none {s : Str} (h : s.count 47 = 0) : splitS s = [s] := splitS_one fun c hc e => by
  rw [e] at hc
  exact absurd (List.count_pos_iff.2 hc) (by omega)
theorem split_count : ∀ (k : Nat) (s : Str), s.count 47 = k → (splitS s).length = k + 1
  | 0, s, h => by rw [split_none h]; rfl
  | k + 1, s, h => by
    have hm : (47 : UInt8) ∈ s := List.count_pos_iff.1 (by omega)
    have hi : Lib.indexByte s 47 ≠ -1 := fun e => by
      obtain ⟨j, hj⟩ := List.getElem?_of_mem hm
      exact Lib.indexByte_none e j hj
    have hg := Lib.indexByte_ge s 47
    obtain ⟨m, hm⟩ : ∃ m : Nat, Lib.indexByte s 47 = m := ⟨(Lib.indexByte s 47).toNat, by omega⟩
    obtain ⟨-, h2, h3⟩ := split_index hm
    rw [h2, List.length_cons, split_count k _ (by omega)]
theorem index_has {s : Str} (h : 0 < s.count 47) : ∃ m : Nat, Lib.indexByte s 47 = m := by
  have hm : (47 : UInt8) ∈ s := List.count_pos_iff.1 h
  have hi : Lib.indexByte s 47 ≠ -1 := fun e => by
    obtain ⟨j, hj⟩ := List.getElem?_of_mem hm
    exact Lib.indexByte_none e j hj
  have hg := Lib.indexByte_ge s 47
  exact ⟨(Lib.indexByte s 47).toNat, by omega⟩

theorem Index_any (l : Str) (w : World) : Calls Tryz.prog 156 #[.string (bs l), .string ⟨#[47]⟩] w (Ret (.int .i64 (Lib.indexByte l 47)) w) := by
  have h := Tryz.strings_Index_one (bs l) 47 w
  rw [bs_data] at h
  exact h.mono fun e w' ⟨h1, h2⟩ => ⟨h1, h2.symm⟩
theorem Count_any (l : Str) (w : World) : Calls Tryz.prog 155 #[.string (bs l), .string ⟨#[47]⟩] w (Ret (.int .i64 (l.count 47 : Nat)) w) := by
  have h := Tryz.strings_Count_one (bs l) 47 w
  rw [bs_data] at h
  exact h.mono fun e w' ⟨h1, h2⟩ => ⟨h1, h2.symm⟩

/-- Between two cuts: the pieces so far, what is left, the cells. -/
def SplRel (w : World) (l : Str) (N g : Nat) (s i : Value) (wr : World) : Prop :=
  ∃ (done : List Str) (r : Str) (j : Nat), s = .string (bs r) ∧ i = .int .i64 j ∧ j = done.length ∧ splitS l = done ++ splitS r ∧ j + r.count 47 = N ∧ r.length ≤ l.length ∧
    wr.ownsRow w.heap.size 9 1 (.slice (some ⟨g, 0, none⟩) (N + 1) (N + 1)) (N + 1) (done.map sv ++ List.replicate (N + 1 - j) (.string ByteArray.empty)) ∧ Ext w wr
set_option maxRecDepth 100000 in
set_option maxHeartbeats 4000000 in
theorem genSplit_any (l : Str) (w : World) (hl : l.length ≤ 1099511627776) :
    Calls Tryz.prog 146 #[.string (bs l), .string ⟨#[47]⟩, .int .i64 0, .int .i64 (-1)] w (NewRow ((splitS l).map sv) 9 1 (splitS l).length w) := by
  have HCN := Lib.hid (Count_any l w)
  have HSL := Lib.hid (split_count _ l rfl)
  have hcl : l.count 47 ≤ l.length := List.count_le_length
  obtain ⟨N, hN⟩ : ∃ N, N = l.count 47 := ⟨_, rfl⟩
  rw [← hN] at HCN HSL hcl
  have HN := Lib.hid hN
  clear hN
  have q0 : min (N : Int) (l.length : Int) = (N : Int) := by omega
  go_enter Tryz.func146, Tryz.ntmps146
  go_upto_region 8 with (first
    | (go_at_call 155; (with_reducible refine HCN.out.mono ?_); rintro en w' ⟨rfl, rfl⟩)
    | fail)
  clear q0
  go_upto_region 11 with (first
    | ((with_reducible refine atSlot 31 ?_); refine wpList_mk rfl _ _ rfl Tryz.elStr (N + 1) (N + 1) rfl rfl (by omega) (by omega) (Nat.le_refl _) (by omega) (by unfold maxLen; omega) ?_; intro g w1 ho1 hx1)
    | fail)
  have HO := Lib.hid ho1
  have HX := Lib.hid hx1
  clear ho1 hx1
  go_loopw [0, 10] (SplRel w l N g) (fun _ i _ => N - (intOf i).toNat)
  case atStart => exact ⟨[], l, 0, rfl, rfl, rfl, rfl, by rw [← HN.out]; omega, Nat.le_refl _, by rw [zeros_one rfl] at HO; exact HO.out, HX.out⟩
  case round =>
    obtain ⟨done, r, j, rfl, rfl, hj, hsp, hcnt, hrl, hown, hx⟩ := hrel
    rename World => wd
    have HSP := Lib.hid hsp
    have HCNT := Lib.hid hcnt
    have HXD := Lib.hid hx
    have HOW := Lib.hid hown
    have HJ := Lib.hid hj
    have hjN : j ≤ N := by omega
    clear hsp hcnt hx hown hj
    by_cases hjl : j < N
    · obtain ⟨m, hm⟩ := index_has (s := r) (by have := HCNT.out; omega)
      obtain ⟨h1, h2, h3⟩ := split_index hm
      have HIX := Lib.hid (show Calls Tryz.prog 156 #[.string (bs r), .string ⟨#[47]⟩] wd (Ret (.int .i64 (m : Nat)) wd) from by rw [← hm]; exact Index_any r wd)
      have H2 := Lib.hid h2
      have H3 := Lib.hid h3
      have hmr : (m : Int) ≤ (r.length : Int) := by omega
      have hmr1 : (m : Int) + 1 ≤ (r.length : Int) := by omega
      have q1 : IntKind.i64.wrap ((m : Int) + 0) = (m : Int) := by rw [IntKind.wrap_i64]; omega
      obtain ⟨⟨u0, hc0⟩, hf0⟩ := own_cell HOW.out (j := j) (by omega)
      clear hm h2 h3
      go_wp2_with (first
        | (go_at_call 156; (with_reducible refine HIX.out.mono ?_); rintro en w' ⟨rfl, rfl⟩)
        | ((with_reducible refine atSlot 49 ?_); refine wpList_of_wp rfl (owp_ixp1 (o := ⟨some 49, _, _, _, _, _⟩) _ _ rfl Tryz.elStr rfl j rfl rfl (by omega) ?_))
        | fail)
      have e1 : (bs r).extract (m + 1) r.length = bs (r.drop (m + 1)) := by
        rw [bs_extract, List.take_of_length_le (by rw [List.length_drop]; exact Nat.le_refl _)]
      have e2 : (bs r).extract 0 m = bs (r.take m) := by rw [bs_extract]; simp
      rw [e1, e2]
      have ho := own_setCell (v := sv (r.take m)) HOW.out (j := j) (by omega)
      have hset : (done.map sv ++ List.replicate (N + 1 - j) (Value.string ByteArray.empty)).set j (sv (r.take m)) = (done ++ [r.take m]).map sv ++ List.replicate (N + 1 - (j + 1)) (Value.string ByteArray.empty) := by
        have hjd := HJ.out
        have hlen : (done.map sv).length = j := by rw [List.length_map, hjd]
        rw [List.set_append_right _ _ (by omega), hlen, Nat.sub_self, show N + 1 - j = (N + 1 - (j + 1)) + 1 by omega, List.replicate_succ, List.set_cons_zero, List.map_append]
        simp
      rw [hset] at ho
      refine ⟨⟨done ++ [r.take m], r.drop (m + 1), j + 1, rfl, by go_num, by rw [List.length_append, ← HJ.out]; rfl, ?_, ?_, ?_, ho, HXD.out.rd (grown_setCell' _ _ _ _) ?_⟩, ?_⟩
      · rw [HSP.out, H2.out]; simp
      · have a1 := HCNT.out; have a2 := H3.out; omega
      · rw [List.length_drop]; omega
      · exact (own_block HOW.out g rfl).1
      · simp [intOf]; omega
    · obtain rfl : j = N := by omega
      have hc0 : r.count 47 = 0 := by have := HCNT.out; omega
      have HSR := Lib.hid (show splitS l = done ++ [r] by rw [HSP.out, split_none hc0])
      have hdl := HJ.out
      obtain ⟨⟨u0, hcell⟩, hf0⟩ := own_cell HOW.out (j := j) (by omega)
      have HGB := Lib.hid (own_block HOW.out g rfl).1
      clear hc0 hdl
      go_upto_region 18 with (first
        | ((with_reducible refine atSlot 61 ?_); refine wpList_of_wp rfl (owp_ixp1 (o := ⟨some 61, _, _, _, _, _⟩) _ _ rfl Tryz.elStr rfl j rfl rfl (by omega) ?_))
        | fail)
      have ho := own_setCell (v := sv r) HOW.out (j := j) (by omega)
      have hset : (done.map sv ++ List.replicate (j + 1 - j) (Value.string ByteArray.empty)).set j (sv r) = (splitS l).map sv := by
        have hjd := HJ.out
        have hlen : (done.map sv).length = j := by rw [List.length_map, hjd]
        rw [List.set_append_right _ _ (by omega), hlen, Nat.sub_self, show j + 1 - j = 1 by omega, HSR.out]
        simp
      rw [hset] at ho
      have HO2 := Lib.hid ho
      have HXF := Lib.hid (HXD.out.rd (grown_setCell' wd g j (sv r)) HGB.out)
      clear ho hcell hf0
      show Code.wp _ _ _ _ (wd.setCell ⟨g, j, none⟩ (sv r))
      generalize wd.setCell ⟨g, j, none⟩ (sv r) = we at HO2 HXF ⊢
      go_wp2_with (first
        | ((with_reducible refine atSlot 65 ?_); refine wpList_of_wp rfl (owp_sl_hi0 (o := ⟨some 65, _, _, _, _, _⟩) _ _ rfl Tryz.elStr rfl (j + 1) rfl (by go_num) (Nat.le_refl _) ?_))
        | fail)
      go_ret
      rw [HSL.out]
      exact ⟨_, _, rfl, HO2.out, HXF.out⟩
theorem Split_any (l : Str) (w : World) (hl : l.length ≤ 1099511627776) : Calls Tryz.prog 124 #[.string (bs l), .string ⟨#[47]⟩] w (NewRow ((splitS l).map sv) 9 1 (splitS l).length w) := by
  have HG := Lib.hid (genSplit_any l w hl)
  go_enter Tryz.func124, Tryz.ntmps124
  go_wp2_with (first
    | (go_at_call 146; (with_reducible refine HG.out.mono ?_); rintro en w' ⟨a, c, rfl, ho, hx⟩)
    | fail)
  go_ret
  exact ⟨_, _, rfl, ho, hx⟩

theorem split_small : ∀ (s : Str), ∀ x ∈ splitS s, x.length ≤ s.length
  | [], x, hx => by
    obtain rfl : x = [] := by simpa [splitS] using hx
    exact Nat.le_refl _
  | c :: s, x, hx => by
    by_cases hc : c = 47
    · subst hc
      rw [splitS_slash] at hx
      rcases List.mem_cons.1 hx with rfl | hx
      · simp
      · have := split_small s x hx; simp only [List.length_cons]; omega
    · cases hs : splitS s with
      | nil => exact absurd hs (splitS_ne s)
      | cons a l =>
        rw [splitS_char hc hs] at hx
        have h1 : ∀ y ∈ splitS s, y.length ≤ s.length := split_small s
        rw [hs] at h1
        rcases List.mem_cons.1 hx with rfl | hx
        · have := h1 a (List.mem_cons_self ..); simp only [List.length_cons]; omega
        · have := h1 x (List.mem_cons_of_mem _ hx); simp only [List.length_cons]; omega
/-! ### path.Split -/
def CpsRel (l : List Str) (i : Value) : Prop := ∃ j : Nat, i = .int .i64 j ∧ j ≤ l.length ∧ (l.take j).all compB = true
/-- path.components with at least two components. -/
def PthO (s : Str) (w : World) (en : Ending) (w' : World) : Prop :=
  ∃ a n c, en = .returned (.tuple #[.slice a n c, .bool (splitP s).isSome]) ∧ (∀ xs, splitP s = some xs → n = xs.length ∧ w'.ownsRow w.heap.size 9 1 (.slice a n c) n (xs.map sv)) ∧ Ext w w'
theorem CutRoot_any (l : Str) (w : World) : Calls Tryz.prog 153 #[.string (bs l), .string ⟨#[47, 47]⟩] w (Ret (.tuple #[.string (bs (if [47, 47].isPrefixOf l then l.drop 2 else l)), .bool ([47, 47].isPrefixOf l)]) w) := by
  have h := Tryz.strings_CutPrefix (bs l) ⟨#[47, 47]⟩ w
  rw [bs_data] at h
  exact h.mono fun e w' ⟨h1, h2⟩ => ⟨h1, h2.symm⟩
set_option maxRecDepth 100000 in
set_option maxHeartbeats 4000000 in
theorem components_any (l : Str) (w : World) (hl : l.length ≤ 1099511627776) : Calls Tryz.prog 143 #[.string (bs l), .int .i64 2] w (PthO l w) := by
  have HCT := Lib.hid (CutRoot_any l w)
  have HSP := Lib.hid (show splitP l = if [47, 47].isPrefixOf l then (if decide (2 ≤ (splitS (l.drop 2)).length) && (splitS (l.drop 2)).all compB then some (splitS (l.drop 2)) else none) else none from rfl)
  obtain ⟨q, hq⟩ : ∃ q, q = [47, 47].isPrefixOf l := ⟨_, rfl⟩
  rw [← hq] at HCT HSP
  clear hq
  cases q with
  | false =>
    go_enter Tryz.func143, Tryz.ntmps143
    go_wp2_with (first
      | (go_at_call 153; (with_reducible refine HCT.out.mono ?_); rintro en w' ⟨rfl, rfl⟩)
      | fail)
    go_ret2
    exact ⟨none, 0, 0, by rw [HSP.out]; rfl, (fun xs h => by rw [HSP.out] at h; cases h), Below.refl _ _⟩
  | true =>
    have HST := Lib.hid (Split_any (l.drop 2) w (by rw [List.length_drop]; omega))
    have hcount : (splitS (l.drop 2)).length ≤ l.length + 1 := by
      rw [split_count _ _ rfl]
      have : (l.drop 2).count 47 ≤ (l.drop 2).length := List.count_le_length
      rw [List.length_drop] at this
      omega
    have hpl : ∀ x ∈ splitS (l.drop 2), x.length ≤ l.length := fun x hx => by
      have := split_small _ x hx
      rw [List.length_drop] at this
      omega
    obtain ⟨L, hL⟩ : ∃ L, L = splitS (l.drop 2) := ⟨_, rfl⟩
    rw [if_pos rfl] at HCT HSP
    rw [← hL] at HST HSP hcount hpl
    obtain ⟨m, hm⟩ : ∃ m, m = L.length := ⟨_, rfl⟩
    rw [← hm] at HST HSP hcount
    have HM := Lib.hid hm
    have HPL := Lib.hid hpl
    clear hL hm hpl
    go_enter Tryz.func143, Tryz.ntmps143
    go_upto_region 5 with (first
      | (go_at_call 153; (with_reducible refine HCT.out.mono ?_); rintro en w' ⟨rfl, rfl⟩)
      | (go_at_call 124; (with_reducible refine HST.out.mono ?_); rintro en w1 ⟨a, c, rfl, ho, hx⟩)
      | fail)
    have HO := Lib.hid ho
    have HX := Lib.hid hx
    clear ho hx
    by_cases hm2 : m < 2
    · go_wp2
      go_ret2
      have hn : splitP l = none := by
        have h := HSP.out
        rw [decide_eq_false (by omega), Bool.false_and] at h
        exact h
      exact ⟨none, 0, 0, by rw [hn]; rfl, (fun xs h => by rw [hn] at h; cases h), HX.out⟩
    · go_upto_region 8 with fail
      go_loop [26] (CpsRel L) (fun i => m - (intOf i).toNat)
      case atStart => exact ⟨0, rfl, Nat.zero_le _, by simp⟩
      case round =>
        obtain ⟨j, rfl, hj, hst⟩ := hrel
        have HSTT := Lib.hid hst
        have hj' : j ≤ m := by rw [HM.out]; exact hj
        clear hst hj
        by_cases hjl : j < m
        · obtain ⟨x, hx⟩ : ∃ x, L[j]? = some x := ⟨_, List.getElem?_eq_getElem (by rw [← HM.out]; exact hjl)⟩
          have HXX := Lib.hid hx
          have hrow := Row.of_own HO.out
          obtain ⟨b, hb⟩ : ∃ b, b = compB x := ⟨_, rfl⟩
          have HCO := Lib.hid (show Calls Tryz.prog 123 #[.string (bs x)] w1 (Ret (.bool b) w1) from by rw [hb]; exact Component_any x w1 (by have := HPL.out x (List.mem_of_getElem? hx); omega))
          have HB := Lib.hid hb
          have HTK := Lib.hid (show (L.take (j + 1)).all compB = b by rw [List.take_add_one, hx, List.all_append, HSTT.out, hb]; simp)
          clear hb hx
          cases b with
          | true =>
            go_wp2_with (first
              | ((with_reducible refine atSlot 28 ?_); refine wpList_of_wp rfl (owp_ix (o := ⟨some 28, _, _, _, _, _⟩) _ _ rfl Tryz.elStr rfl hrow j rfl rfl hjl ?_); intro b1 o1 hc2; have hd := sv_at HXX.out hc2; clear hc2 hrow)
              | (go_at_call 123; (with_reducible refine HCO.out.mono ?_); rintro en w' ⟨rfl, rfl⟩)
              | fail)
            go_round
            case rel => exact ⟨j + 1, by go_num, by rw [← HM.out]; omega, HTK.out⟩
            case measure => simp [intOf]; omega
          | false =>
            go_wp2_with (first
              | ((with_reducible refine atSlot 28 ?_); refine wpList_of_wp rfl (owp_ix (o := ⟨some 28, _, _, _, _, _⟩) _ _ rfl Tryz.elStr rfl hrow j rfl rfl hjl ?_); intro b1 o1 hc2; have hd := sv_at HXX.out hc2; clear hc2 hrow)
              | (go_at_call 123; (with_reducible refine HCO.out.mono ?_); rintro en w' ⟨rfl, rfl⟩)
              | fail)
            go_ret2
            have hn : splitP l = none := by
              have h := HSP.out
              have : L.all compB = false := by
                apply Bool.eq_false_iff.2
                intro h
                have := List.all_eq_true.1 h x (List.mem_of_getElem? HXX.out)
                rw [← HB.out] at this; cases this
              rw [this, Bool.and_false] at h
              exact h
            exact ⟨none, 0, 0, by rw [hn]; rfl, (fun xs h => by rw [hn] at h; cases h), HX.out⟩
        · obtain rfl : j = m := by omega
          go_wp2
          go_ret2
          have hn : splitP l = some L := by
            have h := HSP.out
            have h2 := HSTT.out
            rw [HM.out, List.take_length] at h2
            rw [h2, decide_eq_true (by omega), Bool.and_true] at h
            exact h
          exact ⟨a, j, c, by rw [hn]; rfl, (fun xs h => by rw [hn] at h; cases h; exact ⟨HM.out, HO.out⟩), HX.out⟩

/-- path.Split: the components and an error, that is OK if it is a path. -/
def PspO (s : Str) (w : World) (en : Ending) (w' : World) : Prop :=
  ∃ a n c e, en = .returned (.tuple #[.slice a n c, .int .i64 e]) ∧ (e = 0 ↔ (splitP s).isSome = true) ∧ (∀ xs, splitP s = some xs → n = xs.length ∧ w'.ownsRow w.heap.size 9 1 (.slice a n c) n (xs.map sv)) ∧ Ext w w'
theorem PSplit_any (l : Str) (w : World) (hl : l.length ≤ 1099511627776) : Calls Tryz.prog 120 #[.string (bs l)] w (PspO l w) := by
  have HC := Lib.hid (components_any l w hl)
  obtain ⟨b, hb⟩ : ∃ b, b = (splitP l).isSome := ⟨_, rfl⟩
  unfold PthO at HC
  rw [← hb] at HC
  have HB := Lib.hid hb
  clear hb
  cases b with
  | true =>
    go_enter Tryz.func120, Tryz.ntmps120
    go_wp2_with (first
      | (go_at_call 143; (with_reducible refine HC.out.mono ?_); rintro en w1 ⟨a, n, c, rfl, hs, hx⟩; have HS := Lib.hid hs; clear hs)
      | fail)
    go_ret2
    exact ⟨a, n, c, 0, rfl, ⟨fun _ => HB.out.symm, fun _ => rfl⟩, HS.out, hx⟩
  | false =>
    go_enter Tryz.func120, Tryz.ntmps120
    go_wp2_with (first
      | (go_at_call 143; (with_reducible refine HC.out.mono ?_); rintro en w1 ⟨a, n, c, rfl, hs, hx⟩; have HS := Lib.hid hs; clear hs)
      | fail)
    go_ret2
    exact ⟨none, 0, 0, 20, rfl, ⟨(fun h => by cases h), (fun h => by rw [← HB.out] at h; cases h)⟩, (fun xs h => by have := HB.out; rw [h] at this; cases this), hx⟩
theorem split_any (l : Str) (w : World) (hl : l.length ≤ 1099511627776) : Calls Tryz.prog 90 #[.string (bs l)] w (PthO l w) := by
  have HC := Lib.hid (PSplit_any l w hl)
  obtain ⟨b, hb⟩ : ∃ b, b = (splitP l).isSome := ⟨_, rfl⟩
  unfold PspO at HC
  have goal : ∀ en w', PthO l w en w' = ∃ a n c, en = .returned (.tuple #[.slice a n c, .bool b]) ∧ (∀ xs, splitP l = some xs → n = xs.length ∧ w'.ownsRow w.heap.size 9 1 (.slice a n c) n (xs.map sv)) ∧ Ext w w' := fun en w' => by rw [hb]; rfl
  rw [← hb] at HC
  have HB := Lib.hid hb
  have HG := Lib.hid goal
  clear hb goal
  go_enter Tryz.func90, Tryz.ntmps90
  go_wp2_with (first
    | (go_at_call 120; (with_reducible refine HC.out.mono ?_); rintro en w1 ⟨a, n, c, e, rfl, he, hs, hx⟩; have HS := Lib.hid hs; have HE := Lib.hid he; clear hs he)
    | fail)
  go_ret2
  rw [HG.out]
  refine ⟨a, n, c, ?_, HS.out, hx⟩
  have : (e == 0) = b := by
    apply Bool.eq_iff_iff.2
    rw [beq_iff_eq]
    exact HE.out
  rw [this]
  rfl

/-! ### Join, Text -/
theorem join_lib : ∀ (l : List Str), Lib.join l [47] = joinS l
  | [] => rfl
  | [a] => Lib.join_one a [47]
  | a :: b :: l => by
    rw [joinS_cons _ _ (by simp), ← join_lib (b :: l), Lib.join_cons, Lib.join_cons]
    simp [Lib.joinTail]
theorem joinS_le : ∀ (l : List Str) (S : Nat), (∀ x ∈ l, x.length ≤ S) → (joinS l).length ≤ l.length * (S + 1)
  | [], S, h => by simp [joinS]
  | [a], S, h => by
    have := h a (List.mem_cons_self ..)
    show a.length ≤ 1 * (S + 1)
    omega
  | a :: b :: l, S, h => by
    have h1 := h a (List.mem_cons_self ..)
    have h2 := joinS_le (b :: l) S (fun x hx => h x (List.mem_cons_of_mem _ hx))
    rw [joinS_cons _ _ (by simp), List.length_append, List.length_cons, List.length_cons, Nat.add_mul, Nat.one_mul]
    omega
theorem Join_any (a : Option Addr) (n c : Nat) (l : List Str) (w : World) (hr : Row w a n c 1 (l.map sv)) (hn : n ≤ 1099511627776) (hj : (joinS l).length ≤ 1099511627776) :
    Calls Tryz.prog 78 #[.slice a n c, .string ⟨#[47]⟩] w (NewNone (.string (bs (joinS l))) w) := by
  have hlen : l.length = n := by have := hr.len; simpa using this
  cases n with
  | zero =>
    obtain rfl : l = [] := List.eq_nil_of_length_eq_zero hlen
    exact (Tryz.strings_Join_none a c ⟨#[47]⟩ w).mono fun e w' ⟨h1, h2⟩ => ⟨h1, by rw [h2]; exact Below.refl _ _⟩
  | succ n =>
    cases a with
    | none => have h1 := hr.nil rfl; have h2 := hr.le; omega
    | some p =>
      rcases hr.at_ p rfl with h0 | ⟨bb, oo, rfl⟩
      · have := hr.le; omega
      have hcell : ∀ (j : Nat) x, (l.map bs)[j]? = some x → w.cell? ⟨bb, oo + j, none⟩ = some (.string x) := fun j x hx => by
        rw [List.getElem?_map, Option.map_eq_some_iff] at hx
        obtain ⟨y, hy, rfl⟩ := hx
        have := hr.cell _ rfl j (sv y) (by rw [List.getElem?_map, hy]; rfl)
        rw [Addr.add_lit] at this
        exact this
      have hbk : bb < w.heap.size := by
        have h0 : 0 < (l.map bs).length := by rw [List.length_map, hlen]; omega
        have := hcell 0 _ (List.getElem?_eq_getElem h0)
        exact World.block_lt_of_cell? _ _ this
      have e1 : (l.map bs).map (·.data.toList) = l := by
        rw [List.map_map]
        conv => rhs; rw [← List.map_id l]
        exact List.map_congr_left fun x _ => bs_data x
      have h := Tryz.strings_Join bb oo c (l.map bs) ⟨#[47]⟩ w hcell hbk (by rw [List.length_map, hlen]; omega) (by rw [List.length_map, hlen]; exact hr.le) (by
        rw [e1]
        show (Lib.join l [47]).length ≤ _
        rw [join_lib]; omega)
      rw [e1] at h
      have e2 : Lib.join l (ByteArray.mk #[47]).data.toList = joinS l := join_lib l
      rw [e2, List.length_map, hlen] at h
      exact h.mono fun e w' ⟨h1, h2⟩ => ⟨h1, h2⟩
@[go_sem] theorem bs_lit2 (l : Str) : (⟨#[47, 47]⟩ : ByteArray) ++ bs l = bs (47 :: 47 :: l) := bs_ext (by rw [ByteArray.data_append]; simp [bs_data])
@[go_sem] theorem bs_lit4 (l : Str) : bs l ++ (⟨#[47, 46, 46, 46]⟩ : ByteArray) = bs (l ++ [47, 46, 46, 46]) := bs_ext (by rw [ByteArray.data_append]; simp [bs_data])
set_option maxRecDepth 100000 in
set_option maxHeartbeats 4000000 in
theorem Text_any (k : Pt) (S : Nat) (w : World) (hk : PtI w S k) (hn : k.n ≤ 12) (hS : S ≤ 1073741824) : Calls Tryz.prog 44 #[k.v] w (NewNone (.string (bs (textP k.P))) w) := by
  obtain ⟨a, n, c, ⟨ps, rest⟩⟩ := k
  have hlen : ps.length = n := hk.len
  have hn' : n ≤ 12 := hn
  have hjl : (joinS ps).length ≤ 1099511627776 := by
    have h := joinS_le ps S hk.small
    rw [hlen] at h
    have : n * (S + 1) ≤ 12 * (S + 1) := Nat.mul_le_mul_right _ hn'
    omega
  have HJ := Lib.hid fun w' (h : Ext w w') => Join_any a n c ps w' (hk.row.ext h) (by omega) hjl
  have HX := Lib.hid (Ext.alloc' w (.cells #[.slice a n c, .bool rest] 39))
  have hh := heap_alloc_new w (.cells #[.slice a n c, .bool rest] 39)
  obtain ⟨T, hT⟩ : ∃ T, T = textP ⟨ps, rest⟩ := ⟨_, rfl⟩
  show Calls _ _ _ _ (NewNone (.string (bs (textP ⟨ps, rest⟩))) w)
  rw [← hT]
  have HT := Lib.hid (show T = 47 :: 47 :: (joinS ps ++ if rest then [47, 46, 46, 46] else []) by rw [hT]; rfl)
  obtain ⟨J, hJ⟩ : ∃ J, J = joinS ps := ⟨_, rfl⟩
  rw [← hJ] at HJ HT hjl
  clear hJ hlen hk hn hT
  go_enter Tryz.func44, Tryz.ntmps44
  go_upto_region 1 with fail
  generalize w.alloc (.cells #[.slice a n c, .bool rest] 39) = w1 at HX hh ⊢
  generalize w.heap.size = b at hh ⊢
  have HHB := Lib.hid hh
  obtain ⟨c0, -, -⟩ := box2 hh
  clear hh
  have q1 : ¬ (9223372036854775807 < 2 + J.length) := by omega
  have q2 : ¬ (9223372036854775807 < J.length + 1 + 1 + 4) := by omega
  cases rest with
  | true =>
    go_upto_region 2 with (first
      | (go_at_call 78; (with_reducible refine (HJ.out w1 HX.out).mono ?_); rintro en w2 ⟨rfl, hx2⟩)
      | fail)
    obtain ⟨-, c1, -⟩ := box2 (hx2.heap' HHB.out)
    clear c0
    go_wp2
    go_ret
    refine ⟨?_, HX.out.trans' hx2⟩
    rw [HT.out, if_pos trivial]
    rfl
  | false =>
    go_upto_region 2 with (first
      | (go_at_call 78; (with_reducible refine (HJ.out w1 HX.out).mono ?_); rintro en w2 ⟨rfl, hx2⟩)
      | fail)
    obtain ⟨-, c1, -⟩ := box2 (hx2.heap' HHB.out)
    clear c0
    go_wp2
    go_ret
    refine ⟨?_, HX.out.trans' hx2⟩
    rw [HT.out, if_neg (by decide), List.append_nil]
    rfl
end Go.Proofs.YtejljmikammcdaaGreatDoor
