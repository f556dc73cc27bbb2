/-
  Several texts in one: MaB, MaC.
-/
import Derived.Test.YtejljmikammcdaaGreatDoorReL
import Derived.Test.YtejljmikammcdaaGreatDoorMaA
import Derived.Lib.AppendZerosOnto
/-
  Layer mapping: slices.Grow and slices.Concat of patterns.
-/
namespace Go.Proofs.YtejljmikammcdaaGreatDoor
open Go.RowKit

/-- append([]T(nil), make([]T, k)...): room for k elements. -/
theorem owp_appZ {P : Program} {w : World} {o : Oper} {f : Act} {K : Act → World → Prop} {Q : Exit → Act → World → Prop} (sO xO : Operand) {t tn : TypeId}
    (ho : o.op = .call { callee := .builtin .append, args := #[sO, xO], argTypes := #[t, tn] })
    {e s b : Nat} {z : Value} (E : Elem P t e s b z) {kn : IntKind} (htn : P.underlying tn = some (.int kn)) (hs : f.eval sO = .slice none 0 0) {kq : IntKind} (k : Nat) {I : Int} (hx : f.eval xO = .int kq I) (hI : I = (k : Int)) (h0 : 0 < k)
    (hb : k * b ≤ 140737488355328) (hm : k ≤ maxLen)
    (h : ∀ g c' w', w'.ownsRow w.heap.size e s (.slice (some ⟨g, 0, none⟩) 0 c') 0 [] → Ext w w' → K (f.put o.dst (.slice (some ⟨g, 0, none⟩) k c')) w') : o.wp P f w K Q := by
  subst hI
  obtain ⟨i, hi, hz0, hz1, hz2⟩ := info_parts E.info
  have hr := Lib.run_append_grow_zeros (P := P) w t tn o.type e i z kq kn E.und htn hi hz0 none 0 0 [] (run_firstCells_none w.drew i.size 0 0 0) k h0 (by rw [hz1]; exact E.pos) (by omega) (by rw [Nat.zero_add]; have := hm; simp only [maxLen] at this; omega) (by rw [hz2]; omega)
    (by
      unfold Builtin.nextslicecap
      rw [if_pos (by omega), hz2, Nat.zero_add]
      omega)
  rw [Nat.zero_add] at hr
  unfold Oper.wp execOp
  simp only [ho, resolve, invoke, builtin, Sem.run_bind, Sem.run_pure, Result.andThen_ok, List.map_toArray, List.map_cons, List.map_nil, hs, hx, hr]
  have hge := grownCap_ge w k 0 e
  have hmx := grownCap_le_maxLen w k 0 e hm
  refine h _ _ _ ⟨by simp, .inr ⟨_, grownCap w k 0 e, _, rfl, Nat.le_refl _, heap_alloc_new w.drew _, Nat.zero_le _, hmx, ?_, by simp⟩⟩ ((Ext.drew' w).trans' (Ext.alloc' _ _))
  simp only [Array.size_append, size_zeroCells, E.zs]
  simp only [List.size_toArray, List.length_nil, Nat.zero_add]
  rw [← Nat.add_mul]
  congr 1
  omega

def GroO (w : World) (en : Ending) (w' : World) : Prop := ∃ a c, en = .returned (.slice a 0 c) ∧ w'.ownsRow w.heap.size 39 2 (.slice a 0 c) 0 [] ∧ Ext w w'
set_option maxRecDepth 100000 in
set_option maxHeartbeats 2000000 in
theorem Grow_any (n : Nat) (w : World) (hn : n ≤ 1073741824) : Calls Tryz.prog 119 #[.slice none 0 0, .int .i64 (n : Nat)] w (GroO w) := by
  obtain ⟨post, hpo⟩ : ∃ p : Ending → World → Prop, p = GroO w := ⟨_, rfl⟩
  rw [← hpo]
  have HPO := Lib.hid hpo
  clear hpo
  go_enter Tryz.func119, Tryz.ntmps119
  by_cases h0 : n = 0
  · subst h0
    go_wp2
    rw [HPO.out]
    exact ⟨none, 0, rfl, own_nil _ _ _ _, Below.refl _ _⟩
  · have h1 : (0 : Int) < (n : Int) := by omega
    have h2 : ¬ (n : Int) < 0 := by omega
    have h3 : 0 < n := by omega
    go_wp2_with (first
      | ((with_reducible refine atSlot 22 ?_); refine wpList_of_wp rfl (owp_appZ (o := ⟨some 22, _, _, _, _, _⟩) (.tmp 20) (.tmp 21) rfl Tryz.elPat Tryz.underlying3 rfl n rfl rfl h3 (by omega) (by unfold maxLen; omega) ?_); intro g c' w2 ho2 hx2)
      | ((with_reducible refine atSlot 25 ?_); refine wpList_of_wp rfl (owp_sl_hi0 (o := ⟨some 25, _, _, _, _, _⟩) _ _ rfl Tryz.elPat rfl 0 rfl rfl (Nat.zero_le _) ?_))
      | fail)
    rw [HPO.out]
    exact ⟨_, c', rfl, ho2, hx2⟩

/-- Lists of patterns, one behind the other. -/
structure Pl where
  a : Option Addr
  c : Nat
  L : List Pt
def catL (Xs : List Pl) : List Pt := Xs.flatMap Pl.L
abbrev Pl.v (x : Pl) : Value := .slice x.a x.L.length x.c
theorem catL_step {Xs : List Pl} {j : Nat} {x : Pl} (h : Xs[j]? = some x) : catL (Xs.take (j + 1)) = catL (Xs.take j) ++ x.L := by
  unfold catL
  rw [List.take_add_one, h, List.flatMap_append]
  simp
theorem catL_le (Xs : List Pl) (j : Nat) : (catL (Xs.take j)).length ≤ (catL Xs).length := by
  have h : catL Xs = catL (Xs.take j) ++ catL (Xs.drop j) := by
    unfold catL
    rw [← List.flatMap_append, List.take_append_drop]
  rw [h, List.length_append]
  omega
def CatO (Xs : List Pl) (w : World) (en : Ending) (w' : World) : Prop := ∃ a c, en = .returned (.slice a (catL Xs).length c) ∧ w'.ownsRow w.heap.size 39 2 (.slice a (catL Xs).length c) (catL Xs).length ((catL Xs).flatMap Pt.cells) ∧ Ext w w'
def Ct1Rel (w : World) (Xs : List Pl) (v3 v11 : Value) (wr : World) : Prop := ∃ j : Nat, v11 = .int .i64 j ∧ j ≤ Xs.length ∧ v3 = .int .i64 (catL (Xs.take j)).length ∧ Ext w wr
def Ct2Rel (w : World) (Xs : List Pl) (v6 v27 : Value) (wr : World) : Prop :=
  ∃ (j : Nat) (a : Option Addr) (c : Nat), v27 = .int .i64 j ∧ j ≤ Xs.length ∧ v6 = .slice a (catL (Xs.take j)).length c ∧
    wr.ownsRow w.heap.size 39 2 (.slice a (catL (Xs.take j)).length c) (catL (Xs.take j)).length ((catL (Xs.take j)).flatMap Pt.cells) ∧ Ext w wr
theorem Tryz.elPl : Elem Tryz.prog 197 51 1 24 (.slice none 0 0) := ⟨Tryz.underlying197, by kernel_rfl, rfl, by decide⟩
set_option maxRecDepth 100000 in
set_option maxHeartbeats 4000000 in
theorem Concat_any (Xs : List Pl) (p : Option Addr) (cp : Nat) (w : World) (hr : Row w p Xs.length cp 1 (Xs.map Pl.v)) (hx : ∀ x ∈ Xs, Row w x.a x.L.length x.c 2 (x.L.flatMap Pt.cells)) (hn : (catL Xs).length ≤ 1073741824) (hl : Xs.length ≤ 1073741824) :
    Calls Tryz.prog 89 #[.slice p Xs.length cp] w (CatO Xs w) := by
  have HROW := Lib.hid fun w' (h : Ext w w') => hr.ext h
  have HXS := Lib.hid fun x (hm : x ∈ Xs) w' (h : Ext w w') => (hx x hm).ext h
  have HGR := Lib.hid fun w' => Grow_any (catL Xs).length w' hn
  obtain ⟨post, hpo⟩ : ∃ q : Ending → World → Prop, q = CatO Xs w := ⟨_, rfl⟩
  rw [← hpo]
  have HPO := Lib.hid hpo
  clear hpo hr hx
  go_enter Tryz.func89, Tryz.ntmps89
  go_upto_region 3 with fail
  go_loopw [3, 11] (Ct1Rel w Xs) (fun _ i _ => Xs.length - (intOf i).toNat)
  case atStart => exact ⟨0, rfl, Nat.zero_le _, rfl, Below.refl _ _⟩
  case round =>
    obtain ⟨j, rfl, hj, rfl, hx⟩ := hrel
    rename World => wd
    have HXD := Lib.hid (show Ext w wd from hx)
    clear hx
    by_cases hjl : j < Xs.length
    · obtain ⟨x, hx⟩ : ∃ x, Xs[j]? = some x := ⟨_, List.getElem?_eq_getElem hjl⟩
      have HX := Lib.hid hx
      have HST := Lib.hid (catL_step hx)
      have hle := catL_le Xs (j + 1)
      rw [catL_step hx, List.length_append] at hle
      have hrow := HROW.out wd HXD.out
      have h0 : ¬ ((((catL (Xs.take j)).length : Nat) : Int) + ((x.L.length : Nat) : Int) < 0) := by omega
      clear hx
      go_wp2_with (first
        | ((with_reducible refine atSlot 13 ?_); refine wpList_of_wp rfl (owp_ix (o := ⟨some 13, _, _, _, _, _⟩) _ _ rfl Tryz.elPl rfl hrow j rfl rfl hjl ?_); intro b1 o1 hc2; have hd := (show wd.cell? ⟨b1, o1, none⟩ = some x.v from by have h := hc2 0 (by decide); rw [Nat.add_zero] at h; rw [h, Nat.mul_one, Nat.add_zero, List.getElem?_map, HX.out]; rfl); clear hc2 hrow)
        | fail)
      exact ⟨⟨j + 1, by go_num, hjl, by rw [HST.out, List.length_append]; go_num, HXD.out⟩, by simp [intOf]; omega⟩
    · have hjx : j = Xs.length := by omega
      have hfull : catL (Xs.take j) = catL Xs := by rw [hjx, List.take_length]
      rw [hfull]
      go_upto_region 11 with (first
        | (go_at_call 119; (with_reducible refine (HGR.out _).mono ?_); rintro en w2 ⟨a2, c2, rfl, ho2, hx2⟩)
        | fail)
      have HO2 := Lib.hid (own_base ho2 HXD.out.size)
      have HX2 := Lib.hid (HXD.out.trans' hx2)
      clear ho2 hx2
      go_loopw [6, 27] (Ct2Rel w Xs) (fun _ i _ => Xs.length - (intOf i).toNat)
      case atStart => exact ⟨0, a2, c2, rfl, Nat.zero_le _, rfl, HO2.out, HX2.out⟩
      case round =>
        obtain ⟨i, a, c, rfl, hi, rfl, hown, hx⟩ := hrel
        rename World => we
        have HXE := Lib.hid (show Ext w we from hx)
        have HOW := Lib.hid hown
        clear hx hown
        by_cases hil : i < Xs.length
        · obtain ⟨x, hx⟩ : ∃ x, Xs[i]? = some x := ⟨_, List.getElem?_eq_getElem hil⟩
          have HX := Lib.hid hx
          have HST := Lib.hid (catL_step hx)
          have hle := catL_le Xs (i + 1)
          rw [catL_step hx, List.length_append] at hle
          have hrow := HROW.out we HXE.out
          have hrx := HXS.out x (List.mem_of_getElem? hx) we HXE.out
          clear hx
          go_wp2_with (first
            | ((with_reducible refine atSlot 29 ?_); refine wpList_of_wp rfl (owp_ix (o := ⟨some 29, _, _, _, _, _⟩) _ _ rfl Tryz.elPl rfl hrow i rfl rfl hil ?_); intro b1 o1 hc2; have hd := (show we.cell? ⟨b1, o1, none⟩ = some x.v from by have h := hc2 0 (by decide); rw [Nat.add_zero] at h; rw [h, Nat.mul_one, Nat.add_zero, List.getElem?_map, HX.out]; rfl); clear hc2 hrow)
            | ((with_reducible refine atSlot 33 ?_); refine wpList_of_wp rfl (owp_app (o := ⟨some 33, _, _, _, _, _⟩) _ _ rfl Tryz.elPat rfl HOW.out rfl hrx (flat_one pt_one x.L) (by omega) (by unfold maxLen; omega) HXE.out.size ?_); intro a3 c3 w3 ho3 hg3; have HO3 := Lib.hid ho3; have HX3 := Lib.hid (show Ext w w3 from below_app HXE.out HOW.out hg3 HXE.out.size); clear ho3 hg3)
            | fail)
          refine ⟨⟨i + 1, a3, c3, by go_num, hil, by rw [HST.out, List.length_append], ?_, HX3.out⟩, by simp [intOf]; omega⟩
          rw [HST.out, List.length_append, List.flatMap_append]
          exact HO3.out
        · have hix : i = Xs.length := by omega
          have hfu : catL (Xs.take i) = catL Xs := by rw [hix, List.take_length]
          rw [hfu] at HOW ⊢
          go_wp2
          rw [HPO.out]
          exact ⟨a, c, rfl, HOW.out, HXE.out⟩
end Go.Proofs.YtejljmikammcdaaGreatDoor
/-
  Layer mapping: common, isEntry.
-/
namespace Go.Proofs.YtejljmikammcdaaGreatDoor
open Go.RowKit

theorem void_pats {B : Pat} {L : List Pt} : VoidT B L ↔ VoidP B (L.map Pt.P) := by
  unfold VoidT VoidP CovT
  constructor
  · intro h n h1 h2
    obtain ⟨q, hq, h3⟩ := h n h1 h2
    exact ⟨q.P, List.mem_map_of_mem hq, h3⟩
  · intro h n h1 h2
    obtain ⟨g, hg, h3⟩ := h n h1 h2
    obtain ⟨q, hq, rfl⟩ := List.mem_map.1 hg
    exact ⟨q, hq, h3⟩
set_option maxRecDepth 100000 in
set_option maxHeartbeats 4000000 in
theorem common_any (x y : Rg) (S : Nat) (w : World) (hx : RgI w S x) (hy : RgI w S y) (hS : S ≤ 1073741824) (hxo : ∀ q ∈ x.hs, OkP q.P) (hyo : ∀ q ∈ y.hs, OkP q.P) (hxl : x.hs.length ≤ 1048576) (hyl : y.hs.length ≤ 1048576) :
    Calls Tryz.prog 61 #[x.v, y.v] w (PrO (ComT x.b.P (x.hs.map Pt.P) y.b.P (y.hs.map Pt.P)) w) := by
  have HME := Lib.hid fun w' (h : Ext w w') => Meet_any x.b y.b S w' (hx.b.ext h) (hy.b.ext h) hS
  have hcl : (catL [⟨x.a, x.c, x.hs⟩, ⟨y.a, y.c, y.hs⟩]) = x.hs ++ y.hs := by simp [catL]
  have HCC := Lib.hid fun (p : Option Addr) w' (h : Ext w w') (hr : Row w' p 2 2 1 [.slice x.a x.hs.length x.c, .slice y.a y.hs.length y.c]) => (show Calls Tryz.prog 89 #[.slice p 2 2] w' (CatO [⟨x.a, x.c, x.hs⟩, ⟨y.a, y.c, y.hs⟩] w') from Concat_any [⟨x.a, x.c, x.hs⟩, ⟨y.a, y.c, y.hs⟩] p 2 w' hr (by
    intro z hz
    simp at hz
    rcases hz with rfl | rfl
    · exact hx.hs.row.ext h
    · exact hy.hs.row.ext h) (by rw [hcl, List.length_append]; omega) (by simp))
  have HVO := Lib.hid fun (m : Pt) (a : Option Addr) (c : Nat) w' (hm : PtI w' S m) (ho : OkP m.P) (h : Ext w w') (hr : Row w' a (x.hs ++ y.hs).length c 2 ((x.hs ++ y.hs).flatMap Pt.cells)) => Void_any m a c (x.hs ++ y.hs) S w' hm ⟨hr, fun q hq => by
    rcases List.mem_append.1 hq with hq | hq
    · exact (hx.hs.each q hq).ext h
    · exact (hy.hs.each q hq).ext h⟩ hS ho (fun q hq => by
    rcases List.mem_append.1 hq with hq | hq
    · exact hxo q hq
    · exact hyo q hq)
  rw [hcl.symm] at HVO
  clear hx hy hxo hyo
  obtain ⟨⟨xa, xn, xc, xP⟩, xh, xk, X⟩ := x
  obtain ⟨⟨ya, yn, yc, yP⟩, yh, yk, Y⟩ := y
  obtain ⟨M, hM⟩ : ∃ M, M = meetP xP yP := ⟨_, rfl⟩
  have HM := Lib.hid hM
  have HME' := Lib.hid (show ∀ w', Ext w w' → Calls Tryz.prog 43 #[.agg #[.slice xa xn xc, .bool xP.rest], .agg #[.slice ya yn yc, .bool yP.rest]] w' (fun en w'' => ∃ r : Pt, en = .returned (.tuple #[r.v, .bool M.isSome]) ∧ (∀ m, M = some m → r.P = m) ∧ PtO w'' w'.heap.size S r ∧ Ext w' w'') from by rw [hM]; exact HME.out)
  obtain ⟨post, hpo⟩ : ∃ q : Ending → World → Prop, q = PrO (ComT xP (X.map Pt.P) yP (Y.map Pt.P)) w := ⟨_, rfl⟩
  show Calls _ _ _ _ (PrO (ComT xP (X.map Pt.P) yP (Y.map Pt.P)) w)
  rw [← hpo]
  have HPO := Lib.hid hpo
  have HX := Lib.hid (two_boxes w #[.slice xa xn xc, .bool xP.rest, .slice xh X.length xk] #[.slice ya yn yc, .bool yP.rest, .slice yh Y.length yk] 55 55)
  clear hpo hM HME
  go_enter Tryz.func61, Tryz.ntmps61
  go_upto_region 1 with fail
  generalize (w.alloc (.cells #[.slice xa xn xc, .bool xP.rest, .slice xh X.length xk] 55)).alloc (.cells #[.slice ya yn yc, .bool yP.rest, .slice yh Y.length yk] 55) = w2 at HX ⊢
  obtain ⟨hx2, hh1, hh2⟩ := HX.out
  have HX2 := Lib.hid hx2
  have HB1 := Lib.hid hh1
  have HB2 := Lib.hid hh2
  have hr9 := (box3 hh1).1
  have hr11 := (box3 hh2).1
  generalize w.heap.size = b at HB1 HB2 hr9 hr11 ⊢
  clear hx2 hh1 hh2 HX
  go_upto_region 2 with (first
    | ((with_reducible refine atSlot 9 ?_); refine wpList_of_wp rfl (wp_load_mid (op := ⟨some 9, _, _, _, _, _⟩) 39 _ rfl b 0 rfl [.slice xa xn xc, .bool xP.rest] _ hr9 Tryz.underlying39 rfl (by kernel_rfl) ?_); clear hr9)
    | ((with_reducible refine atSlot 11 ?_); refine wpList_of_wp rfl (wp_load_mid (op := ⟨some 11, _, _, _, _, _⟩) 39 _ rfl (b + 1) 0 rfl [.slice ya yn yc, .bool yP.rest] _ hr11 Tryz.underlying39 rfl (by kernel_rfl) ?_); clear hr11)
    | (go_at_call 43; (with_reducible refine (HME'.out _ HX2.out).mono ?_); rintro en w5 ⟨⟨ma, mn, mc, mP⟩, rfl, h2, h3, hx5⟩; have HM2 := Lib.hid h2; have HMP := Lib.hid h3; have HX5 := Lib.hid hx5; have HP5 := Lib.hid (put_new w5 #[.slice none 0 0, .bool false] #[.slice ma mn mc, .bool mP.rest] 39); have hn5 := heap_alloc_new w5 (.cells #[.slice none 0 0, .bool false] 39); clear h2 h3 hx5)
    | ((with_reducible refine atStore 5 ?_); refine wpList_of_wp rfl (wp_store_row (o := ⟨none, _, _, _, _, _⟩) _ _ _ rfl w5.heap.size #[.slice ma mn mc, .bool mP.rest] rfl rfl _ _ hn5 (by kernel_rfl) rfl (by simp [Value.oneCell']) ?_); clear hn5)
    | fail)
  generalize (w5.alloc (.cells #[.slice none 0 0, .bool false] 39)).setRow w5.heap.size #[.slice ma mn mc, .bool mP.rest] = w6 at HP5 ⊢
  obtain ⟨hx6, hb6⟩ := HP5.out
  have HX6 := Lib.hid (HX5.out.trans' hx6)
  have HF6 := Lib.hid hb6
  have HMQ := Lib.hid (HMP.out.ext hx6)
  generalize w5.heap.size = g5 at HF6 ⊢
  clear hx6 hb6 HP5 HMP HX5
  have E6 := Ext.drew' w6
  have HR6 := Lib.hid (show Ext w6 w6.drew from E6)
  have HQ1 := Lib.hid fun w' (h : Ext w6 w') => (HX6.out.trans' h).heap' HB1.out
  have HQ2 := Lib.hid fun w' (h : Ext w6 w') => (HX6.out.trans' h).heap' HB2.out
  have HQ6 := Lib.hid fun w' (h : Ext w6 w') => h.heap' HF6.out
  cases M with
  | none =>
    refine wp_region_z (fun w' => Ext w6 w') HR6.out [] (.qs [0, 1, 2, 3, 4, 5, 6] (.l 7 (.l 8 (.l 9 (.qs [10, 11, 12] .nil))))) (by kernel_rfl) (by kernel_rfl) ?_
    iterate 7 (first | ((refine wpZ_q rfl rfl _ (fun w' hx' => by go_simp; try rfl) ?_; go_simp)) | ((refine wpZ_skip rfl rfl ?_; go_simp)))
    refine wpZ_lskip rfl rfl ?_
    go_simp
    refine wpZ_lskip rfl rfl ?_
    go_simp
    refine wpZ_lskip rfl rfl ?_
    go_simp
    iterate 3 (first | ((refine wpZ_q rfl rfl _ (fun w' hx' => by go_simp; try rfl) ?_; go_simp)) | ((refine wpZ_skip rfl rfl ?_; go_simp)))
    refine wpZ_nil ?_
    go_wp2
    rw [HPO.out]
    refine ⟨false, rfl, ⟨(fun h => by cases h), fun ⟨m, h1, _⟩ => ?_⟩, HX2.out.trans' (HX6.out.trans' HR6.out)⟩
    rw [← HM.out] at h1; cases h1
  | some m =>
    obtain rfl : mP = m := HM2.out m rfl
    refine wp_region_z (fun w' => Ext w6 w') HR6.out [] (.qs [0, 1, 2, 3, 4, 5, 6] (.l 7 (.l 8 (.l 9 (.qs [10, 11, 12] .nil))))) (by kernel_rfl) (by kernel_rfl) ?_
    ((refine wpZ_q rfl rfl _ (fun w' hx' => by go_simp; try rfl) ?_; go_simp))
    ((refine wpZ_q rfl rfl _ (fun w' hx' => by go_simp; try rfl) ?_; go_simp))
    refine wpZ_q rfl rfl (.agg #[.slice ma mn mc, .bool mP.rest]) (fun w' hx' => by obtain ⟨d0, d1, -⟩ := box2 (HQ6.out w' hx'); go_simp; try rfl) ?_
    go_simp
    ((refine wpZ_q rfl rfl _ (fun w' hx' => by go_simp; try rfl) ?_; go_simp))
    refine wpZ_q rfl rfl (.slice xh X.length xk) (fun w' hx' => by have hb' := (box3 (HQ1.out w' hx')).2.1; go_simp; try rfl) ?_
    go_simp
    ((refine wpZ_q rfl rfl _ (fun w' hx' => by go_simp; try rfl) ?_; go_simp))
    refine wpZ_q rfl rfl (.slice yh Y.length yk) (fun w' hx' => by have hb' := (box3 (HQ2.out w' hx')).2.1; go_simp; try rfl) ?_
    go_simp
    refine wpZ_l rfl rfl ?_
    go_simp
    have hal := Ext.alloc' w6 (.cells #[.slice xh X.length xk, .slice yh Y.length yk] 51)
    have hrn := (Row.new w6 #[.slice xh X.length xk, .slice yh Y.length yk] 51 2 1 rfl (by decide)).ext (Ext.drew' _)
    have HX8 := Lib.hid (hal.trans' (Ext.drew' _))
    generalize (w6.alloc (.cells #[.slice xh X.length xk, .slice yh Y.length yk] 51)).drew = w8 at HX8 hrn ⊢
    have HXW := Lib.hid (HX2.out.trans' (HX6.out.trans' HX8.out))
    refine ⟨HX8.out, ?_⟩
    obtain ⟨C, hC⟩ : ∃ C, C = catL [⟨xh, xk, X⟩, ⟨yh, yk, Y⟩] := ⟨_, rfl⟩
    refine wpZ_l rfl rfl ?_
    go_simp
    refine (HCC.out _ _ HXW.out hrn).mono ?_
    rintro en w9 ⟨a9, c9, rfl, ho9, hx9⟩
    rw [← hC] at hcl HVO ho9 ⊢
    have HCL := Lib.hid hcl
    clear hcl hC
    have HX9 := Lib.hid (HX8.out.trans' hx9)
    have HRW := Lib.hid (Row.of_own ho9)
    refine ⟨HX9.out, ?_⟩
    clear ho9 hx9 hrn hal
    go_simp
    refine wpZ_l rfl rfl ?_
    go_simp
    refine (HVO.out ⟨ma, mn, mc, mP⟩ a9 c9 _ (HMQ.out.i.ext HX9.out) (meetP_some HM.out.symm).1 (HX2.out.trans' (HX6.out.trans' HX9.out)) HRW.out).mono ?_
    rintro en w10 ⟨f, rfl, hf, hx10⟩
    have HF := Lib.hid hf
    have HX10 := Lib.hid (HX9.out.trans' hx10)
    refine ⟨HX10.out, ?_⟩
    clear hf hx10
    go_simp
    iterate 3 (first | ((refine wpZ_q rfl rfl _ (fun w' hx' => by go_simp; try rfl) ?_; go_simp)) | ((refine wpZ_skip rfl rfl ?_; go_simp)))
    refine wpZ_nil ?_
    go_wp2
    rw [HPO.out]
    refine ⟨!f, rfl, ?_, HX2.out.trans' (HX6.out.trans' HX10.out)⟩
    have h1 : (f = true) ↔ VoidP mP (X.map Pt.P ++ Y.map Pt.P) := by
      have h := HF.out
      rw [HCL.out] at h
      rw [h, void_pats, List.map_append]
    constructor
    · intro h
      refine ⟨mP, HM.out.symm, fun hv => ?_⟩
      rw [h1.2 hv] at h; cases h
    · rintro ⟨m', h2, h3⟩
      rw [← HM.out] at h2; cases h2
      cases f with
      | false => rfl
      | true => exact absurd (h1.1 rfl) h3
set_option maxRecDepth 100000 in
set_option maxHeartbeats 2000000 in
theorem isEntry_any (k : En) (S : Nat) (w : World) (hk : EnI w S k) (hS : S < 4611686018427387904) : Calls Tryz.prog 60 #[k.v] w (PrO (OkR k.l.P k.r.P ∧ OkG k.l.P k.hs) w) := by
  have HLI := Lib.hid fun w' => line_any k w'
  have HLE := Lib.hid fun w' => left_any k w'
  have HRC := Lib.hid fun w' (h : Ext w w') => RCheck_any k.line S w' (hk.line.ext h) hS
  have HGC := Lib.hid fun w' (h : Ext w w') => GCheck_any k.left S w' (hk.left.ext h) hS
  clear hk
  obtain ⟨⟨la, ln, lc, lP⟩, ⟨ra, rn, rc, rP⟩, a, c, hs⟩ := k
  obtain ⟨post, hpo⟩ : ∃ q : Ending → World → Prop, q = PrO (OkR lP rP ∧ OkG lP hs) w := ⟨_, rfl⟩
  show Calls _ _ _ _ (PrO (OkR lP rP ∧ OkG lP hs) w)
  rw [← hpo]
  have HPO := Lib.hid hpo
  have HX := Lib.hid (Ext.alloc' w (.cells #[.slice la ln lc, .bool lP.rest, .slice ra rn rc, .bool rP.rest, .slice a hs.length c] 60))
  have hh := heap_alloc_new w (.cells #[.slice la ln lc, .bool lP.rest, .slice ra rn rc, .bool rP.rest, .slice a hs.length c] 60)
  clear hpo
  go_enter Tryz.func60, Tryz.ntmps60
  go_upto_region 1 with fail
  change Code.wp _ _ _ _ (w.alloc (.cells #[.slice la ln lc, .bool lP.rest, .slice ra rn rc, .bool rP.rest, .slice a hs.length c] 60))
  generalize w.alloc (.cells #[.slice la ln lc, .bool lP.rest, .slice ra rn rc, .bool rP.rest, .slice a hs.length c] 60) = w1 at HX hh ⊢
  generalize w.heap.size = b at hh ⊢
  have HB := Lib.hid hh
  have hr3 := (box5e hh).2.2.2
  clear hh
  by_cases hr : OkR lP rP
  · have HR := Lib.hid hr
    have HRC' := Lib.hid (show ∀ w', Ext w w' → Calls Tryz.prog 41 #[(En.line ⟨⟨la, ln, lc, lP⟩, ⟨ra, rn, rc, rP⟩, a, c, hs⟩).v] w' (NewNone (.int .i64 0) w') from fun w' h => (HRC.out w' h).mono fun en w'' hh => by
      obtain ⟨e, h1, h2, h3⟩ := hh
      obtain rfl : e = 0 := h2.2 hr
      exact ⟨h1, h3⟩)
    clear hr HRC
    go_wp2_with (first
      | ((with_reducible refine atSlot 3 ?_); refine wpList_of_wp rfl (wp_load_mid (op := ⟨some 3, _, _, _, _, _⟩) 60 _ rfl b 0 rfl [.slice la ln lc, .bool lP.rest, .slice ra rn rc, .bool rP.rest, .slice a hs.length c] _ hr3 Tryz.underlying60 rfl (by kernel_rfl) ?_); clear hr3)
      | (go_at_call 27; (with_reducible refine (HLI.out _).mono ?_); rintro en w2 ⟨rfl, hx2⟩; have HX2 := Lib.hid (HX.out.trans' hx2); have HB2 := Lib.hid (hx2.heap' HB.out); clear hx2)
      | (go_at_call 41; (with_reducible refine (HRC'.out _ HX2.out).mono ?_); rintro en w3 ⟨rfl, hx3⟩; have HX3 := Lib.hid (HX2.out.trans' hx3); have hr8 := (box5e (hx3.heap' HB2.out)).2.2.2; clear hx3)
      | ((with_reducible refine atSlot 8 ?_); refine wpList_of_wp rfl (wp_load_mid (op := ⟨some 8, _, _, _, _, _⟩) 60 _ rfl b 0 rfl [.slice la ln lc, .bool lP.rest, .slice ra rn rc, .bool rP.rest, .slice a hs.length c] _ hr8 Tryz.underlying60 rfl (by kernel_rfl) ?_); clear hr8)
      | (go_at_call 31; (with_reducible refine (HLE.out _).mono ?_); rintro en w4 ⟨rfl, hx4⟩; have HX4 := Lib.hid (HX3.out.trans' hx4); clear hx4)
      | (go_at_call 62; (with_reducible refine (HGC.out _ HX4.out).mono ?_); rintro en w5 ⟨e, rfl, h2, hx5⟩; have H2 := Lib.hid h2; have HX5 := Lib.hid (HX4.out.trans' hx5); clear h2 hx5)
      | fail)
    rw [HPO.out]
    refine ⟨_, rfl, ?_, HX5.out⟩
    have h := H2.out
    rw [beq_iff_eq]
    exact ⟨fun h' => ⟨HR.out, h.1 (by omega)⟩, fun h' => by have := h.2 h'.2; omega⟩
  · have HR := Lib.hid hr
    have HRC' := Lib.hid (show ∀ w', Ext w w' → Calls Tryz.prog 41 #[(En.line ⟨⟨la, ln, lc, lP⟩, ⟨ra, rn, rc, rP⟩, a, c, hs⟩).v] w' (fun en w'' => ∃ e : Nat, en = .returned (.int .i64 e) ∧ e ≠ 0 ∧ Ext w' w'') from fun w' h => (HRC.out w' h).mono fun en w'' hh => by
      obtain ⟨e, h1, h2, h3⟩ := hh
      exact ⟨e, h1, fun h => hr (h2.1 h), h3⟩)
    clear hr HRC
    go_wp2_with (first
      | ((with_reducible refine atSlot 3 ?_); refine wpList_of_wp rfl (wp_load_mid (op := ⟨some 3, _, _, _, _, _⟩) 60 _ rfl b 0 rfl [.slice la ln lc, .bool lP.rest, .slice ra rn rc, .bool rP.rest, .slice a hs.length c] _ hr3 Tryz.underlying60 rfl (by kernel_rfl) ?_); clear hr3)
      | (go_at_call 27; (with_reducible refine (HLI.out _).mono ?_); rintro en w2 ⟨rfl, hx2⟩; have HX2 := Lib.hid (HX.out.trans' hx2); clear hx2)
      | (go_at_call 41; (with_reducible refine (HRC'.out _ HX2.out).mono ?_); rintro en w3 ⟨e, rfl, h2, hx3⟩; have HX3 := Lib.hid (HX2.out.trans' hx3); obtain ⟨q1, q2⟩ := neI (x := (e : Int)) (y := 0) (by omega); clear h2 hx3)
      | fail)
    rw [HPO.out]
    exact ⟨false, rfl, ⟨(fun h => by cases h), fun h => absurd h.1 HR.out⟩, HX3.out⟩
end Go.Proofs.YtejljmikammcdaaGreatDoor
