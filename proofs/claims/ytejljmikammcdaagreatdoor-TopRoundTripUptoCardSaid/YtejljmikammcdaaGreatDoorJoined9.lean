/-
  Several texts in one: ReI, ReJ, ReK.
-/
import Derived.Test.YtejljmikammcdaaGreatDoorReH
import Derived.Lib.SliceRun
/-
  Layer region: clear of an own row's tail.
-/
namespace Go.Proofs.YtejljmikammcdaaGreatDoor
open Go.RowKit

/-- The first elements of an own row. -/
theorem own_pre {w : World} {B e s n c g i : Nat} {xs : List Value} (h : w.ownsRow B e s (.slice (some ⟨g, 0, none⟩) n c) n xs) (hi : i ≤ n) : w.ownsRow B e s (.slice (some ⟨g, 0, none⟩) i c) i (xs.take (i * s)) := by
  obtain ⟨hl, hh⟩ := h
  have hm := Nat.mul_le_mul_right s hi
  refine ⟨by rw [List.length_take, hl]; omega, ?_⟩
  rcases hh with ⟨hv, -⟩ | ⟨g', cap, cur, hv, hB, hg, hle, hmx, hs, ht⟩
  · simp at hv
  · simp only [Value.slice.injEq, Option.some.injEq, Addr.mk.injEq, and_true, true_and] at hv
    obtain ⟨rfl, rfl⟩ := hv
    exact .inr ⟨g, c, cur, rfl, hB, hg, by omega, hmx, hs, by rw [← ht, List.take_take]; congr 1; omega⟩
theorem own_setCell_past {w : World} {B e s n c g j : Nat} {xs : List Value} (h : w.ownsRow B e s (.slice (some ⟨g, 0, none⟩) n c) n xs) (hj : n * s ≤ j) (v : Value) : (w.setCell ⟨g, j, none⟩ v).ownsRow B e s (.slice (some ⟨g, 0, none⟩) n c) n xs := by
  obtain ⟨hl, hh⟩ := h
  refine ⟨hl, ?_⟩
  rcases hh with ⟨hv, -⟩ | ⟨g', cap, cur, hv, hB, hg, hle, hm, hs, ht⟩
  · simp at hv
  · simp only [Value.slice.injEq, Option.some.injEq, Addr.mk.injEq, and_true, true_and] at hv
    obtain ⟨rfl, rfl⟩ := hv
    refine .inr ⟨g, c, cur.setIfInBounds j v, rfl, hB, ?_, hle, hm, by simpa using hs, ?_⟩
    · simp [World.setCell, Array.getElem?_modify, hg]
    · rw [Array.toList_setIfInBounds, ← ht]
      apply List.ext_getElem?
      intro i
      simp only [List.getElem?_take, List.getElem?_set]
      by_cases hi : i < n * s
      · simp only [hi, if_true]
        rw [if_neg (by omega)]
      · simp [hi]
theorem own_setCells_past {B e s n c g : Nat} {xs : List Value} : ∀ (vs : List Value) (o : Nat) (w : World), n * s ≤ o → w.ownsRow B e s (.slice (some ⟨g, 0, none⟩) n c) n xs → (w.setCells g o vs).ownsRow B e s (.slice (some ⟨g, 0, none⟩) n c) n xs
  | [], _, _, _, h => h
  | v :: vs, o, w, ho, h => own_setCells_past vs (o + 1) _ (by omega) (own_setCell_past h ho v)
/-- clear of n elements of any number of cells. -/
theorem run_clearK {P : Program} (w : World) (t e ty : TypeId) (z : Value) (ht : P.underlying t = some (.slice e)) (hv : ∀ w, (zeroValue e).run P w = .ok z w) (b o n c : Nat) (hn : 0 < n)
    (h1 : ∀ v ∈ (Builtin.zeroCells z.cells n).toList, v.oneCell' = true)
    (hc : ∀ j, j < (Builtin.zeroCells z.cells n).toList.length → (w.cell? ⟨b, o + j, none⟩).isSome = true) (hf : ∀ j, j < (Builtin.zeroCells z.cells n).toList.length → w.frozen? ⟨b, o + j, none⟩ = false) :
    (Builtin.clear_ #[t] ty #[.slice (some ⟨b, o, none⟩) n c]).run P w = .ok (.tuple #[]) (w.setCells b o (Builtin.zeroCells z.cells n).toList) := by
  obtain ⟨L, hL⟩ : ∃ L, L = (Builtin.zeroCells z.cells n).toList := ⟨_, rfl⟩
  rw [← hL] at h1 hc hf ⊢
  have hst := run_storeCells_cells (P := P) b o L 0 w (by simpa using hc) (by simpa using hf) h1
  simp only [Nat.add_zero] at hst
  obtain ⟨m, rfl⟩ : ∃ m, n = m + 1 := ⟨n - 1, by omega⟩
  simp [Builtin.clear_, run_underlying ht, hv, ← hL, hst]
end Go.Proofs.YtejljmikammcdaaGreatDoor
/-
  Layer region: holes in own rows: read, written, sliced.
-/
namespace Go.Proofs.YtejljmikammcdaaGreatDoor
open Go.RowKit

theorem hole_at {w : World} {b o i : Nat} {L : List Pt} {x : Pt} (hk : L[i]? = some x) (hc : ∀ j, j < 3 → w.cell? ⟨b, o + j, none⟩ = (L.flatMap encH)[i * 3 + j]?) :
    w.cell? ⟨b, o, none⟩ = some (.slice x.a x.n x.c) ∧ w.cell? ⟨b, o + 1, none⟩ = some (.bool x.P.rest) ∧ w.cell? ⟨b, o + 2, none⟩ = some (.string (bs (textP x.P))) := by
  have h := flat_range encH_three hk hc
  have h0 := h 0 _ rfl
  rw [Nat.add_zero] at h0
  exact ⟨h0, h 1 _ rfl, h 2 _ rfl⟩
theorem owp_sl_loA {P : Program} {w : World} {o : Oper} {f : Act} {K : Act → World → Prop} {Q : Exit → Act → World → Prop} (xO lO : Operand) {t : TypeId}
    (ho : o.op = .slice t xO (some lO) none none) {e s b : Nat} {z : Value} (E : Elem P t e s b z) {a : Option Addr} {n c : Nat} (hx : f.eval xO = .slice a n c)
    (l : Nat) {kl : IntKind} {L : Int} (hl : f.eval lO = .int kl L) (hL : L = (l : Int)) (hlh : l ≤ n)
    (hk : K (f.put o.dst (.slice (subA a l c s) (n - l) (c - l))) w) : o.wp P f w K Q := by
  subst hL
  unfold Oper.wp
  simp [execOp, ho, hx, hl, Instr.sliceAt, run_underlying E.und, run_sl_lo E a n c kl l hlh, Result.andThen]
  exact hk
/-- One record set. -/
theorem flat_set {α : Type} {f : α → List Value} {s : Nat} (hf : ∀ x, (f x).length = s) : ∀ (C : List α) (i : Nat) (x : α), i < C.length → (C.flatMap f).take (i * s) ++ f x ++ (C.flatMap f).drop (i * s + (f x).length) = (C.set i x).flatMap f
  | [], i, x, h => by simp at h
  | y :: C, 0, x, h => by
    simp only [Nat.zero_mul, List.take_zero, List.nil_append, Nat.zero_add, List.set_cons_zero, List.flatMap_cons]
    rw [hf x, ← hf y, List.drop_left']
    rfl
  | y :: C, i + 1, x, h => by
    have ih := flat_set hf C i x (by simpa using h)
    rw [List.set_cons_succ, List.flatMap_cons, List.flatMap_cons, ← ih]
    have e1 : (i + 1) * s = (f y).length + i * s := by rw [hf, Nat.add_mul, Nat.one_mul, Nat.add_comm]
    rw [e1, List.take_length_add_append, Nat.add_assoc, List.drop_length_add_append]
    simp
end Go.Proofs.YtejljmikammcdaaGreatDoor
/-
  Layer region: slices.CompactFunc of holes (under way).
-/
namespace Go.Proofs.YtejljmikammcdaaGreatDoor
open Go.RowKit

/-- What is left of a row whose neighbours of one text are taken together. -/
def CmpcO (L : List Pt) (B c : Nat) (a : Option Addr) (w : World) (en : Ending) (w' : World) : Prop :=
  ∃ N : List Pt, en = .returned (.slice a N.length c) ∧ w'.ownsRow B 103 3 (.slice a N.length c) N.length (N.flatMap encH) ∧ (∀ q ∈ N, q ∈ L) ∧ (∀ q ∈ L, ∃ r ∈ N, textP r.P = textP q.P) ∧ N.length ≤ L.length ∧ w.grownBy w' (blockOf a)
def CfRel (w : World) (n : Nat) (i : Value) (wr : World) : Prop := ∃ j : Nat, i = .int .i64 j ∧ 1 ≤ j ∧ j ≤ n ∧ Ext w wr
/-- Between two rounds of the inner loop. -/
def CiRel (w : World) (L : List Pt) (B c g j : Nat) (v5 v7 : Value) (wr : World) : Prop :=
  ∃ (C : List Pt) (i k : Nat), v5 = .int .i64 i ∧ v7 = .int .i64 k ∧ C.length = L.length ∧ wr.ownsRow B 103 3 (.slice (some ⟨g, 0, none⟩) L.length c) L.length (C.flatMap encH) ∧ 1 ≤ k ∧ 1 ≤ i ∧ i < j + k ∧ j + k ≤ L.length ∧
    (∀ t, i ≤ t → C[t]? = L[t]?) ∧ (∀ q ∈ C.take i, q ∈ L) ∧ (∀ t q, t < j + k → L[t]? = some q → ∃ r ∈ C.take i, textP r.P = textP q.P) ∧ w.grownBy wr (some g)
/-- The operation at hand is a call whose result nobody takes. -/
theorem atClear {P : Program} {ops : Array Oper} {Q : Exit → Act → World → Prop} {rest : List Oper} {a : Act} {w : World} {l : Call} {ty : TypeId} {pos : String} {af : Array Edge} {gd : Option (Nat × Bool)}
    (h : wpList P ops Q (⟨none, .call l, ty, pos, af, gd⟩ :: rest) a w) : wpList P ops Q (⟨none, .call l, ty, pos, af, gd⟩ :: rest) a w := h
abbrev holeZ : Value := .agg #[.slice none 0 0, .bool false, .string ByteArray.empty]
theorem zero_hole (n : Nat) : ∀ v ∈ (Builtin.zeroCells holeZ.cells n).toList, v.oneCell' = true := by
  intro v hv
  rw [Array.mem_toList_iff] at hv
  obtain ⟨i, hi, rfl⟩ := Array.getElem_of_mem hv
  simp only [Builtin.zeroCells, Array.getElem_map, Array.getElem_range]
  have h3 : i % 3 < 3 := Nat.mod_lt _ (by decide)
  show (holeZ.cells[i % 3]!).oneCell' = true
  generalize i % 3 = k at h3
  match k, h3 with
  | 0, _ => rfl
  | 1, _ => rfl
  | 2, _ => rfl
theorem owp_clear {P : Program} {w : World} {o : Oper} {f : Act} {K : Act → World → Prop} {Q : Exit → Act → World → Prop} (xO : Operand) {t : TypeId}
    (ho : o.op = .call { callee := .builtin .clear, args := #[xO], argTypes := #[t] }) {e s b : Nat} {z : Value} (E : Elem P t e s b z) {g i n c : Nat} (hx : f.eval xO = .slice (some ⟨g, i, none⟩) n c) (hn : 0 < n)
    (h1 : ∀ n, ∀ v ∈ (Builtin.zeroCells z.cells n).toList, v.oneCell' = true) (ht : w.there g i (n * s))
    (hk : K (f.put o.dst (.tuple #[])) (w.setCells g i (Builtin.zeroCells z.cells n).toList)) : o.wp P f w K Q := by
  obtain ⟨j, hi, hz0, hz1, hz2⟩ := info_parts E.info
  have hlen : (Builtin.zeroCells z.cells n).toList.length = n * s := by rw [Array.length_toList, size_zeroCells, E.zs]
  have hr := run_clearK (P := P) w t e o.type z E.und (fun w => by simp [zeroValue, typeInfo, hi, hz0]) g i n c hn (h1 n) (fun j hj => (ht j (by omega)).1) (fun j hj => (ht j (by omega)).2)
  unfold Oper.wp execOp
  simp only [ho, resolve, invoke, builtin, Sem.run_bind, Sem.run_pure, Result.andThen_ok, List.map_toArray, List.map_cons, List.map_nil, hx, hr]
  exact hk
theorem own_le {w : World} {B e s n c g : Nat} {xs : List Value} (h : w.ownsRow B e s (.slice (some ⟨g, 0, none⟩) n c) n xs) : n ≤ c := (Row.of_own h).le
set_option maxRecDepth 100000 in
set_option maxHeartbeats 4000000 in
theorem Compact_any (L : List Pt) (B c : Nat) (a : Option Addr) (w : World) (h : w.ownsRow B 103 3 (.slice a L.length c) L.length (L.flatMap encH)) (hl : L.length < 4611686018427387904) :
    Calls Tryz.prog 48 #[.slice a L.length c, .func (.func 49) #[] #[]] w (CmpcO L B c a w) := by
  have eg : ∀ args w, (callFunc 49 args).run Tryz.prog w = .ok (.enter 49 args) w := enters_of Tryz.func49 (by kernel_rfl) rfl
  have HOWN := Lib.hid h
  have HROW := Lib.hid (Row.of_own h)
  obtain ⟨post, hpo⟩ : ∃ p : Ending → World → Prop, p = CmpcO L B c a w := ⟨_, rfl⟩
  rw [← hpo]
  have HPO := Lib.hid hpo
  have HSAME := Lib.hid fun w' (hx : Ext w w') => (show post (.returned (.slice a L.length c)) w' from by
    rw [hpo]
    exact ⟨L, rfl, own_ext HOWN.out hx, fun _ hq => hq, fun q hq => ⟨q, hq, rfl⟩, Nat.le_refl _, by
      have hg := grown_ext hx
      exact ⟨hg.os, hg.tape, hg.output, hg.size, fun k hk _ => hg.block k hk (by simp)⟩⟩)
  clear hpo h
  go_enter Tryz.func48, Tryz.ntmps48
  by_cases h2 : L.length < 2
  · have h2' : (L.length : Int) < 2 := by omega
    go_wp2
    exact HSAME.out w (Below.refl _ _)
  have h2' : ¬ (L.length : Int) < 2 := by omega
  go_upto_region 4 with fail
  go_loopw [5] (CfRel w L.length) (fun i _ => L.length - (intOf i).toNat)
  case atStart => exact ⟨1, rfl, Nat.le_refl _, by omega, Below.refl _ _⟩
  case round =>
    obtain ⟨j, rfl, hj1, hj, hx⟩ := hrel
    rename World => wd
    have HXD := Lib.hid (show Ext w wd from hx)
    clear hx
    by_cases hjl : j < L.length
    · obtain ⟨x, hx⟩ : ∃ x, L[j]? = some x := ⟨_, List.getElem?_eq_getElem hjl⟩
      obtain ⟨y, hy⟩ : ∃ y, L[j - 1]? = some y := ⟨_, List.getElem?_eq_getElem (by omega)⟩
      have HLX := Lib.hid hx
      have HLY := Lib.hid hy
      have hjm : (j : Int) - 1 = ((j - 1 : Nat) : Int) := by omega
      have hjl1 : j - 1 < L.length := by omega
      have hjw : IntKind.i64.wrap ((j - 1 : Nat) : Int) = ((j - 1 : Nat) : Int) := by rw [IntKind.wrap_i64]; omega
      have E3 := Ext.drew' wd
      have hx3 := HXD.out.trans' E3
      have HX3 := Lib.hid hx3
      clear hx hy hx3
      go_upto_region 6 with fail
      refine wp_region_z (fun w' => Ext w w') HX3.out [] (.qs [0, 1, 2, 3, 4, 5, 6, 7, 8, 9] (.l 10 .nil)) (by kernel_rfl) (by kernel_rfl) ?_
      iterate 3 ((refine wpZ_q rfl rfl _ (fun w' hx' => by go_simp; try rfl) ?_; go_simp))
      refine wpZ_ix rfl rfl (.tmp 19) (.tmp 20) rfl Tryz.elHole rfl (fun w' h => HROW.out.ext h) HX3.out j rfl rfl hjl ?_
      intro b4 o4 hc4
      have HC4 := Lib.hid hc4
      clear hc4
      go_simp
      refine wpZ_q rfl rfl (hv x) (fun w' hx' => by obtain ⟨c0, c1, c2⟩ := hole_at HLX.out (fun i hi => HC4.out i hi w' hx'); go_simp; try rfl) ?_
      go_simp
      iterate 3 ((refine wpZ_q rfl rfl _ (fun w' hx' => by go_simp; try rfl) ?_; go_simp))
      refine wpZ_ix rfl rfl (.tmp 23) (.tmp 25) rfl Tryz.elHole rfl (fun w' h => HROW.out.ext h) HX3.out (j - 1) rfl (by first | rfl | exact hjw | exact hjm) hjl1 ?_
      intro b5 o5 hc5
      have HC5 := Lib.hid hc5
      clear hc5
      go_simp
      refine wpZ_q rfl rfl (hv y) (fun w' hx' => by obtain ⟨c0, c1, c2⟩ := hole_at HLY.out (fun i hi => HC5.out i hi w' hx'); go_simp; try rfl) ?_
      go_simp
      refine wpZ_l rfl rfl ?_
      go_simp
      refine (Reduce2_any x y _).mono ?_
      rintro en w5 ⟨f, rfl, hf, hx5⟩
      have HF := Lib.hid hf
      have HX5 := Lib.hid (HX3.out.trans' hx5)
      refine ⟨HX5.out, wpZ_nil ?_⟩
      clear hf hx5
      cases f with
      | false =>
        go_wp2
        exact ⟨⟨j + 1, by go_num, by omega, hjl, HX5.out⟩, by simp [intOf]; omega⟩
      | true =>
        have HTX := Lib.hid (HF.out.1 rfl)
        obtain ⟨g, rfl⟩ : ∃ g, a = some ⟨g, 0, none⟩ := by
          obtain ⟨g, cur, h, -⟩ := own_some HOWN.out (by omega)
          exact ⟨g, h⟩
        go_upto_region 9 with (first
          | ((with_reducible refine atSlot 31 ?_); refine wpList_of_wp rfl (owp_sl_loA (o := ⟨some 31, _, _, _, _, _⟩) _ _ rfl Tryz.elHole rfl j rfl rfl hj ?_))
          | fail)
        obtain ⟨a5, ha5⟩ : ∃ a5, a5 = subA (some ⟨g, 0, none⟩) j c 3 := ⟨_, rfl⟩
        rw [← ha5]
        have HA5 := Lib.hid ha5
        clear ha5
        go_loopw [5, 7] (CiRel w L B c g j) (fun _ k _ => L.length - j - (intOf k).toNat)
        case atStart =>
          refine ⟨L, j, 1, rfl, rfl, rfl, own_ext HOWN.out HX5.out, Nat.le_refl _, hj1, by omega, hjl, fun _ _ => rfl, fun q hq => List.mem_of_mem_take hq, fun t q ht hq => ?_, ?_⟩
          · by_cases htj : t < j
            · exact ⟨q, List.mem_of_getElem? (by rw [List.getElem?_take_of_lt htj]; exact hq), rfl⟩
            · obtain rfl : t = j := by omega
              rw [HLX.out] at hq
              cases hq
              exact ⟨y, List.mem_of_getElem? (i := t - 1) (by rw [List.getElem?_take_of_lt (by omega)]; exact HLY.out), HTX.out.symm⟩
          · have hg := grown_ext HX5.out
            exact ⟨hg.os, hg.tape, hg.output, hg.size, fun k hk _ => hg.block k hk (by simp)⟩
        case round =>
          obtain ⟨C, i, k, rfl, rfl, hCL, hown, hk1, hi1, hik, hkl, hsame, hmem, hcov, hgr⟩ := hrel
          rename World => we
          have hRT := (Row.of_own hown).tail j hj
          rw [← HA5.out, flat_drop encH_three] at hRT
          have HRT := Lib.hid hRT
          have HOW := Lib.hid hown
          have HGR := Lib.hid hgr
          have HSAM := Lib.hid hsame
          have HMEM := Lib.hid hmem
          have HCOV := Lib.hid hcov
          clear hRT hown hgr hsame hmem hcov
          by_cases hkn : k < L.length - j
          · obtain ⟨p, hp⟩ : ∃ p, L[j + k]? = some p := ⟨_, List.getElem?_eq_getElem (by omega)⟩
            obtain ⟨r, hr⟩ : ∃ r, L[j + k - 1]? = some r := ⟨_, List.getElem?_eq_getElem (by omega)⟩
            have HP := Lib.hid hp
            have HR := Lib.hid hr
            have HCP := Lib.hid (show (C.drop j)[k]? = some p by rw [List.getElem?_drop, HSAM.out _ (by omega), hp])
            have HCR := Lib.hid (show (C.drop j)[k - 1]? = some r by rw [List.getElem?_drop, show j + (k - 1) = j + k - 1 by omega, HSAM.out _ (by omega), hr])
            clear hp hr
            have hkm : (k : Int) - 1 = ((k - 1 : Nat) : Int) := by omega
            have hkw : IntKind.i64.wrap ((k - 1 : Nat) : Int) = ((k - 1 : Nat) : Int) := by rw [IntKind.wrap_i64]; omega
            have hkl1 : k - 1 < L.length - j := by omega
            have hkz : (k : Int) < ((L.length - j : Nat) : Int) := by omega
            have HE3 := Lib.hid (Ext.drew' we)
            go_upto_region 11 with fail
            refine wp_region_z (fun w' => Ext we w') HE3.out [] (.qs [0, 1, 2, 3, 4, 5, 6, 7, 8, 9] (.l 10 (.qs [11] .nil))) (by kernel_rfl) (by kernel_rfl) ?_
            iterate 3 ((refine wpZ_q rfl rfl _ (fun w' hx' => by go_simp; try rfl) ?_; go_simp))
            refine wpZ_ix rfl rfl (.tmp 39) (.tmp 40) rfl Tryz.elHole rfl (fun w' h => HRT.out.ext h) HE3.out k rfl rfl hkn ?_
            intro b6 o6 hc6
            have HC6 := Lib.hid hc6
            clear hc6
            go_simp
            refine wpZ_q rfl rfl (hv p) (fun w' hx' => by obtain ⟨c0, c1, c2⟩ := hole_at HCP.out (fun i hi => HC6.out i hi w' hx'); go_simp; try rfl) ?_
            go_simp
            iterate 3 ((refine wpZ_q rfl rfl _ (fun w' hx' => by go_simp; try rfl) ?_; go_simp))
            refine wpZ_ix rfl rfl (.tmp 43) (.tmp 45) rfl Tryz.elHole rfl (fun w' h => HRT.out.ext h) HE3.out (k - 1) rfl (by first | rfl | exact hkw | exact hkm) hkl1 ?_
            intro b7 o7 hc7
            have HC7 := Lib.hid hc7
            clear hc7
            go_simp
            refine wpZ_q rfl rfl (hv r) (fun w' hx' => by obtain ⟨c0, c1, c2⟩ := hole_at HCR.out (fun i hi => HC7.out i hi w' hx'); go_simp; try rfl) ?_
            go_simp
            refine wpZ_l rfl rfl ?_
            go_simp
            refine (Reduce2_any p r _).mono ?_
            rintro en w6 ⟨f, rfl, hf, hx6⟩
            have HFF := Lib.hid hf
            have HX6 := Lib.hid (HE3.out.trans' hx6)
            refine ⟨HX6.out, ?_⟩
            clear hf hx6
            go_simp
            ((refine wpZ_q rfl rfl _ (fun w' hx' => by go_simp; try rfl) ?_; go_simp))
            refine wpZ_nil ?_
            cases f with
            | true =>
              have HEQ := Lib.hid (show textP p.P = textP r.P from HFF.out.1 rfl)
              go_wp2
              refine ⟨⟨C, i, k + 1, rfl, by go_num, hCL, own_ext HOW.out HX6.out, by omega, hi1, by omega, by omega, HSAM.out, HMEM.out, fun t q ht hq => ?_, ?_⟩, by simp [intOf]; omega⟩
              · by_cases htj : t < j + k
                · exact HCOV.out t q htj hq
                · obtain rfl : t = j + k := by omega
                  rw [HP.out] at hq
                  cases hq
                  obtain ⟨r', h1, h2⟩ := HCOV.out (j + k - 1) r (by omega) HR.out
                  exact ⟨r', h1, h2.trans HEQ.out.symm⟩
              · have hg := grown_ext HX6.out
                exact grown_trans' HGR.out ⟨hg.os, hg.tape, hg.output, hg.size, fun k hk _ => hg.block k hk (by simp)⟩
            | false =>
              have hrow := HRT.out.ext HX6.out
              have HO6 := Lib.hid (own_ext HOW.out HX6.out)
              have hin : i < L.length := by omega
              go_wp2_with (first
                | ((with_reducible refine atSlot 54 ?_); refine wpList_of_wp rfl (owp_ix (o := ⟨some 54, _, _, _, _, _⟩) _ _ rfl Tryz.elHole rfl hrow k rfl rfl hkn ?_); intro b8 o8 hc8; have hd := flat_range encH_three HCP.out hc8; clear hc8 hrow)
                | ((with_reducible refine atSlot 55 ?_); refine wpList_of_wp rfl (wp_load_mid (op := ⟨some 55, _, _, _, _, _⟩) 103 _ rfl b8 o8 rfl [.slice p.a p.n p.c, .bool p.P.rest, .string (bs (textP p.P))] _ hd Tryz.underlying103 rfl (by kernel_rfl) ?_); clear hd)
                | ((with_reducible refine atSlot 56 ?_); refine wpList_of_wp rfl (owp_ixp1 (o := ⟨some 56, _, _, _, _, _⟩) _ _ rfl Tryz.elHole rfl i rfl rfl hin ?_))
                | ((with_reducible refine atStore 56 ?_); refine wpList_of_wp rfl (wp_store_mid (op := ⟨none, _, _, _, _, _⟩) 103 _ _ rfl g (i * 3) (encH p).toArray rfl rfl (own_there HO6.out (by show i * 3 + 3 ≤ L.length * 3; omega)) (by kernel_rfl) (all_oneCell_toArray (encH_one p)) ?_))
                | fail)
              have ho7 := own_setCells (encH p) (i * 3) _ _ HO6.out (by rw [encH_three]; omega)
              rw [flat_set encH_three C i p (by omega)] at ho7
              have hg := grown_ext HX6.out
              refine ⟨⟨C.set i p, i + 1, k + 1, by go_num, by go_num, by rw [List.length_set]; exact hCL, ho7, by omega, by omega, by omega, by omega, fun t ht => ?_, fun q hq => ?_, fun t q ht hq => ?_, ?_⟩, by simp [intOf]; omega⟩
              · rw [List.getElem?_set_ne (by omega)]; exact HSAM.out t (by omega)
              · rw [List.take_add_one, List.take_set_of_le (Nat.le_refl _), List.getElem?_set_self (by omega)] at hq
                rcases List.mem_append.1 hq with hq | hq
                · exact HMEM.out q hq
                · obtain rfl : q = p := by simpa using hq
                  exact List.mem_of_getElem? HP.out
              · rw [List.take_add_one, List.take_set_of_le (Nat.le_refl _), List.getElem?_set_self (by omega)]
                by_cases htj : t < j + k
                · obtain ⟨r', h1, h2⟩ := HCOV.out t q htj hq
                  exact ⟨r', List.mem_append_left _ h1, h2⟩
                · obtain rfl : t = j + k := by omega
                  rw [HP.out] at hq
                  cases hq
                  exact ⟨p, List.mem_append_right _ (by simp), rfl⟩
              · exact grown_trans' (grown_trans' HGR.out ⟨hg.os, hg.tape, hg.output, hg.size, fun k hk _ => hg.block k hk (by simp)⟩) (grown_setCells g (encH p) (i * 3) _)
          · have hkz : ¬ (k : Int) < ((L.length - j : Nat) : Int) := by omega
            have hin : i < L.length := by omega
            have hpre := own_pre HOW.out (i := i) (by omega)
            rw [flat_take encH_three] at hpre
            have hCi : (C.take i).length = i := by rw [List.length_take, hCL]; omega
            have ho8 := own_setCells_past (Builtin.zeroCells holeZ.cells (L.length - i)).toList (i * 3) we (Nat.le_refl _) hpre
            have hg8 := grown_trans' HGR.out (grown_setCells g (Builtin.zeroCells holeZ.cells (L.length - i)).toList (i * 3) we)
            have hth := own_there HOW.out (i := i * 3) (m := (L.length - i) * 3) (by rw [← Nat.add_mul]; exact Nat.mul_le_mul_right 3 (by omega))
            have hsub : subA (some ⟨g, 0, none⟩) i c 3 = some ⟨g, i * 3, none⟩ := by
              have hcap := (own_le HOW.out)
              unfold subA
              rw [if_neg (by omega)]
              simp [Addr.add]
              omega
            have hic : i ≤ c := by have := own_le HOW.out; omega
            go_wp2_with (first
              | ((with_reducible refine atSlot 61 ?_); refine wpList_of_wp rfl (owp_sl_loA (o := ⟨some 61, _, _, _, _, _⟩) _ _ rfl Tryz.elHole rfl i rfl rfl (by omega) ?_); rw [hsub])
              | ((with_reducible refine atClear ?_); refine wpList_of_wp rfl (owp_clear (o := ⟨none, _, _, _, _, _⟩) _ rfl Tryz.elHole rfl (by omega) zero_hole hth ?_))
              | ((with_reducible refine atSlot 64 ?_); refine wpList_of_wp rfl (owp_sl_hi0 (o := ⟨some 64, _, _, _, _, _⟩) _ _ rfl Tryz.elHole rfl i rfl rfl hic ?_))
              | fail)
            rw [HPO.out]
            refine ⟨C.take i, by rw [hCi], by rw [hCi]; exact ho8, HMEM.out, fun q hq => ?_, by rw [hCi]; omega, hg8⟩
            obtain ⟨t, ht⟩ := List.getElem?_of_mem hq
            exact HCOV.out t q (by have := (List.getElem?_eq_some_iff.1 ht).1; omega) ht
    · go_wp2
      exact HSAME.out wd HXD.out
end Go.Proofs.YtejljmikammcdaaGreatDoor
