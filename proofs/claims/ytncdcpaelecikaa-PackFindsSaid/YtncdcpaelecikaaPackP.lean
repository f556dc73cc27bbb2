/-
  The reference's frame.
-/
import Derived.Test.YtncdcpaelecikaaPackH
import Derived.Test.YtncdcpaelecikaaMathP
namespace Go.Proofs.Ytncdcpaelecikaa
open Go.RowKit

section
variable {P : Program} {w : World}
theorem results_c2 {fn : Func} {p t1 t2 : Tmp} {ty : TypeId} (h : fn.results = #[.cell p ty, .tmp t1, .tmp t2]) (tmps : Array Value) (g : Nat) (cs : List Value) (d : TypeDesc)
    (hp : tmps.getD p undef = .pointer (some ⟨g, 0, none⟩)) (hc : w.rangeAt g 0 cs)
    (hu : P.underlying ty = some d) (hd : d.isRow = true) (hi : (P.info? ty).map (·.size) = some cs.length) :
    (results fn tmps).run P w = .ok (.tuple #[.agg cs.toArray, tmps.getD t1 undef, tmps.getD t2 undef]) w := by
  have hp' : tmps[p]?.getD undef = .pointer (some ⟨g, 0, none⟩) := by simpa using hp
  simp [results, h, hp', asAddr, run_loadVar_mid w g 0 ty cs d hc hu hd hi]
end

theorem TakeUint_as (a : Option Addr) (n c : Nat) (l : List UInt8) (at_ : Int) (w : World) (hb : Bytes w a n c l) (hn : n ≤ 140737488355328) {v : Nat} {nx e : Int} (h : uintRes l at_ = (v, nx, e)) :
    Calls Try.prog 47 #[.slice a n c, .int .i64 at_] w (Ret (.tuple #[.int .u64 v, .int .i64 nx, .int .i64 e]) w) := by
  have := TakeUint_any a n c l at_ w hb hn
  rw [h] at this
  exact this
theorem range_of_heap {w : World} {g : Nat} {x y z : Value} {t : TypeId} {fr : Nat × Nat} (h : w.heap[g]? = some (.cells #[x, y, z] t fr)) : w.rangeAt g 0 [x, y, z] := fun j v hj => by
  rw [Nat.zero_add, cell_of_row _ _ _ _ _ _ h, ← hj]; simp
def RFrErr (w : World) (er : Int) (e : Ending) (w' : World) : Prop := e = .returned (.tuple #[.agg #[.int .u64 0, .int .i64 0, .slice none 0 0], .int .i64 0, .int .i64 er]) ∧ Ext w w'
def RFrOk (w : World) (k : Ck) (nx : Nat) (e : Ending) (w' : World) : Prop :=
  ∃ k' : Ck, k'.d = k ∧ e = .returned (.tuple #[.agg #[.int .u64 k'.s, .int .i64 k'.z, .slice k'.a k'.n k'.c], .int .i64 nx, .int .i64 0]) ∧ OwnK w' w.heap.size k' ∧ Ext w w'
def RFrPost (w : World) (r : Except Int (Ck × Nat)) (e : Ending) (w' : World) : Prop :=
  match r with
  | .error er => RFrErr w er e w'
  | .ok (k, nx) => RFrOk w k nx e w'
theorem ext_setRow {w w' : World} {cs : Array Value} (h : Ext w w') : Ext w (w'.setRow w.heap.size cs) := h.setRow (Nat.le_refl _)

set_option maxRecDepth 100000 in
set_option maxHeartbeats 4000000 in
theorem refFrame_any (a : Option Addr) (n c : Nat) (ca : Option Addr) (cn cc : Nat) (at_ : Nat) (l : List UInt8) (L : List Ck) (w : World) (hb : Bytes w a n c l)
    (hn : n ≤ 100000000000000) (hL : Chunks w ca cn cc L) (hcn : cn ≤ 100000000) (hat : at_ ≤ n) :
    Calls Try.prog 42 #[.slice a n c, .int .i64 at_, .slice ca cn cc] w (RFrPost w (frameAt l (at_ + 1) (L.map Ck.d).getLast?)) := by
  have hbl := hb.len
  have hA := heap_alloc_new w (.cells #[.int .u64 0, .int .i64 0, .slice none 0 0] 46)
  have E1 : Ext w (w.alloc (.cells #[.int .u64 0, .int .i64 0, .slice none 0 0] 46)) := Ext.alloc' _ _
  have eat : ((at_ + 1 : Nat) : Int) = (at_ : Int) + 1 := by omega
  rcases uint_cases l (at_ + 1) with ⟨z, a1, u1, r1, h1, h2, h3, hz⟩ | ⟨u1, er, r1, he⟩
  rotate_left
  · have e0 : frameAt l (at_ + 1) (L.map Ck.d).getLast? = .error 293 := by unfold frameAt; rw [u1]
    have he0 : (er == 0) = false := by rcases he with rfl | rfl | rfl <;> decide
    have hen : (er != 0) = true := by rcases he with rfl | rfl | rfl <;> decide
    have hen' : ¬ er = 0 := by rcases he with rfl | rfl | rfl <;> decide
    rw [e0]
    rw [eat] at r1
    clear e0 he u1 eat
    have R1 := Lib.hid r1
    clear r1
    go_enter Try.func42, Try.ntmps42
    go_wp2_with (go_at_call 47; (with_reducible refine (TakeUint_as a n c l _ _ (hb.ext E1) (by omega) R1.out).mono ?_); rintro e w1 ⟨rfl, rfl⟩)
    refine bodyPost_ret (results_c2 (ty := 46) rfl _ w.heap.size [.int .u64 0, .int .i64 0, .slice none 0 0] _ rfl (range_of_heap (heap_alloc_new w _)) Try.underlying46 rfl (by kernel_rfl)) rfl ?_
    exact ⟨rfl, Ext.alloc' _ _⟩
  rcases uint_cases l a1 with ⟨s, a2, u2, r2, h4, h5, h6, hs⟩ | ⟨u2, er, r2, he⟩
  rotate_left
  · have e0 : frameAt l (at_ + 1) (L.map Ck.d).getLast? = .error 293 := by unfold frameAt; rw [u1]; simp only [u2]
    have he0 : (er == 0) = false := by rcases he with rfl | rfl | rfl <;> decide
    have hen : (er != 0) = true := by rcases he with rfl | rfl | rfl <;> decide
    have hen' : ¬ er = 0 := by rcases he with rfl | rfl | rfl <;> decide
    rw [e0]
    rw [eat] at r1
    clear e0 he u1 u2 eat
    have R1 := Lib.hid r1
    have R2 := Lib.hid r2
    clear r1 r2
    have t1 : True := trivial
    go_enter Try.func42, Try.ntmps42
    go_wp2_with (first
      | (go_at_call 47; have _t := t1; (with_reducible refine (TakeUint_as a n c l _ _ (hb.ext E1) (by omega) R1.out).mono ?_); rintro e w1 ⟨rfl, rfl⟩; clear t1)
      | (go_at_call 47; (with_reducible refine (TakeUint_as a n c l _ _ (hb.ext E1) (by omega) R2.out).mono ?_); rintro e w1 ⟨rfl, rfl⟩))
    refine bodyPost_ret (results_c2 (ty := 46) rfl _ w.heap.size [.int .u64 0, .int .i64 0, .slice none 0 0] _ rfl (range_of_heap (heap_alloc_new w _)) Try.underlying46 rfl (by kernel_rfl)) rfl ?_
    exact ⟨rfl, Ext.alloc' _ _⟩
  have e1 : frameAt l (at_ + 1) (L.map Ck.d).getLast? = (if z < 1 ∨ 8192 < z ∨ l.length < a2 + z then .error 293
      else if rightB s z ((l.drop a2).take z) = false then .error 290
      else if behindB (L.map Ck.d).getLast? (dk s z ((l.drop a2).take z)) = false then .error 291
      else .ok (dk s z ((l.drop a2).take z), a2 + z)) := by unfold frameAt; rw [u1]; simp only [u2]
  rw [e1]
  rw [eat] at r1
  have R1 := Lib.hid r1
  have R2 := Lib.hid r2
  clear r1 r2 u1 u2 e1 eat
  have t1 : True := trivial
  by_cases hz0 : z < 1 ∨ 8192 < z ∨ l.length < a2 + z
  · rw [if_pos hz0]
    have hwr : IntKind.i64.wrap ((n : Int) - a2) = (n : Int) - a2 := by rw [IntKind.wrap_i64]; omega
    have hz3 : z < 1 ∨ (1 ≤ z ∧ 8192 < z) ∨ (1 ≤ z ∧ z ≤ 8192 ∧ (n : Int) - a2 < z) := by omega
    clear hz0
    rcases hz3 with hz3 | ⟨hz4, hz3⟩ | ⟨hz4, hz5, hz3⟩
    all_goals
      go_enter Try.func42, Try.ntmps42
      go_wp2_with (first
        | (go_at_call 47; have _t := t1; (with_reducible refine (TakeUint_as a n c l _ _ (hb.ext E1) (by omega) R1.out).mono ?_); rintro e w1 ⟨rfl, rfl⟩; clear t1)
        | (go_at_call 47; (with_reducible refine (TakeUint_as a n c l _ _ (hb.ext E1) (by omega) R2.out).mono ?_); rintro e w1 ⟨rfl, rfl⟩))
      refine bodyPost_ret (results_c2 (ty := 46) rfl _ w.heap.size [.int .u64 0, .int .i64 0, .slice none 0 0] _ rfl (range_of_heap (heap_alloc_new w _)) Try.underlying46 rfl (by kernel_rfl)) rfl ?_
      exact ⟨rfl, Ext.alloc' _ _⟩
  rw [if_neg hz0]
  have hz1 : 1 ≤ z := by omega
  have hz2 : z ≤ 8192 := by omega
  have hz3 : ¬ ((n : Int) - a2 < z) := by omega
  have hwr : IntKind.i64.wrap ((n : Int) - a2) = (n : Int) - a2 := by rw [IntKind.wrap_i64]; omega
  have hza : a2 + z ≤ n := by omega
  obtain ⟨bb, hbb⟩ : ∃ bb, bb = (l.drop a2).take z := ⟨_, rfl⟩
  have hbbl : bb.length = z := by rw [hbb, List.length_take, List.length_drop]; omega
  rw [← hbb]
  obtain ⟨r, hrr⟩ : ∃ r : Except Int (Ck × Nat), r = (if rightB s z bb = false then .error 290 else if behindB (L.map Ck.d).getLast? (dk s z bb) = false then .error 291 else .ok (dk s z bb, a2 + z)) := ⟨_, rfl⟩
  rw [← hrr]
  have HRES := Lib.hid hrr
  have HBB := Lib.hid hbb
  have HBL := Lib.hid hbbl
  clear hrr hbb hbbl hz0
  go_enter Try.func42, Try.ntmps42
  go_wp2_with (first
    | (go_at_call 47; have _t := t1; (with_reducible refine (TakeUint_as a n c l _ _ (hb.ext E1) (by omega) R1.out).mono ?_); rintro e w1 ⟨rfl, rfl⟩; clear t1)
    | (go_at_call 47; (with_reducible refine (TakeUint_as a n c l _ _ (hb.ext E1) (by omega) R2.out).mono ?_); rintro e w1 ⟨rfl, rfl⟩)
    | ((with_reducible refine atSlot 62 ?_); refine wpList_of_wp rfl (owp_sl_lh (o := ⟨some 62, _, _, _, _, _⟩) _ _ _ rfl Try.elB rfl (hb.ext E1).row a2 z rfl rfl rfl (by first | rfl | omega) (by omega) ?_); intro a3 hr3; have hb3 := Bytes.sub hr3; rw [← HBB.out] at hb3)
    | (at_builtin; refine wpList_clone rfl _ _ rfl Try.elB rfl rfl hb3.row (u8_oneCell _) (by omega) ?_; intro a4 c4 w4 ho4 hx4; have hA4 := hx4.heap' hA; refine Stop.of ?_))
  have E4 := E1.trans' hx4
  by_cases hr : rightB s (z : Int) bb = true
  rotate_left
  · have hr' := Bool.eq_false_iff.2 hr
    have e290 : r = .error 290 := by rw [HRES.out, if_pos hr']
    have H290 := Lib.hid e290
    have HRr := Lib.hid hr'
    clear hr hr' e290
    refine Stop.out ?_
    go_wp2_with (first
      | (go_at_call 35; (with_reducible refine (refRight_any s z a4 z c4 bb _ ((Bytes.of_own ho4).ext (Ext.alloc' _ _)) (by omega)).mono ?_); rw [HRr.out]; rintro e w5 ⟨rfl, hx5⟩; have hx45 := (Ext.alloc' w4 _).trans' hx5; have hA5 := hx45.heap' hA4)
      | (refine wpList_store_row rfl 46 _ _ rfl w.heap.size #[.int .u64 0, .int .i64 0, .slice none 0 0] rfl rfl 46 _ hA5 (by kernel_rfl) rfl (by simp [Value.oneCell']) ?_))
    refine bodyPost_ret (results_c2 (ty := 46) rfl _ w.heap.size [.int .u64 0, .int .i64 0, .slice none 0 0] _ rfl (range_of_heap (setRow_heap _ _ _ #[.int .u64 0, .int .i64 0, .slice none 0 0] _ _ hA5)) Try.underlying46 rfl (by kernel_rfl)) rfl ?_
    rw [H290.out]
    exact ⟨rfl, ext_setRow (E4.trans' hx45)⟩
  have e2 : r = (if behindB (L.map Ck.d).getLast? (dk s z bb) = false then .error 291 else .ok (dk s z bb, a2 + z)) := by rw [HRES.out, if_neg (by rw [hr]; decide)]
  have HRES2 := Lib.hid e2
  have HRr := Lib.hid hr
  clear hr e2 HRES
  obtain ⟨x, hxd⟩ : ∃ x : Ck, x = ⟨s, z, a4, z, c4, bb⟩ := ⟨_, rfl⟩
  have hxK : OwnK w4 w.heap.size x := by rw [hxd]; exact ⟨own_base ho4 E1.size, hz2, (by show (s : Int) ≤ _; omega), by show ((z : Nat) : Int) ≤ _; omega⟩
  have hxD : x.d = dk s z bb := by rw [hxd]; rfl
  have HLl := Lib.hid hL.1
  have HxD := Lib.hid hxD
  have HX := Lib.hid hxd
  clear hxD hxd
  refine Stop.out ?_
  go_wp2_with (go_at_call 35; (with_reducible refine (refRight_any s z a4 z c4 bb _ ((Bytes.of_own ho4).ext (Ext.alloc' _ _)) (by omega)).mono ?_); rw [HRr.out]; rintro e w5 ⟨rfl, hx5⟩; have hx45 := (Ext.alloc' w4 _).trans' hx5; have hA5 := hx45.heap' hA4; have hbox5 := hx5.heap' (heap_alloc_new w4 _))
  have E5 := E4.trans' hx45
  have hrow5 := (hL.ext E5).2.1
  have hBx5 : ∀ w' j, Ext w5 w' → w'.cell? ⟨w4.heap.size, j, none⟩ = #[.int .u64 s, .int .i64 z, .slice a4 z c4][j]? := fun w' j hx => cell_of_row _ _ _ _ _ _ (hx.heap' hbox5)
  by_cases hc0 : 0 < cn
  focus
    obtain ⟨y, hy⟩ : ∃ y, L[cn - 1]? = some y := ⟨_, List.getElem?_eq_getElem (by have := HLl.out; omega)⟩
    have hlast : (L.map Ck.d).getLast? = some y.d := by
      rw [List.getLast?_eq_getElem?, List.length_map, HLl.out, List.getElem?_map, hy]; rfl
    have HY := Lib.hid hy
    have ebh : behindB (L.map Ck.d).getLast? (dk s z bb) = lessB y x := by rw [hlast, ← HxD.out]; rfl
    have HBH := Lib.hid ebh
    have ecl : decide (y.s < s ∨ y.s = s ∧ y.z < (z : Int)) = lessB y x := by rw [HX.out]; rfl
    have ECL := Lib.hid ecl
    have hc1 : (0 : Int) ≤ (cn : Int) - 1 := by omega
    have hc2 : decide ((0 : Int) ≤ (cn : Int) - 1) = true := by simp; omega
    have hc3 : 1 ≤ cn := hc0
    have hc4 : (1 : Int) ≤ cn := by omega
    clear hy hlast ebh ecl
    refine wp_region_e [] (.qs [0, 1, 2, 3, 4, 5, 6, 7, 8, 9] (.l 10 (.qs [11, 12] .nil))) (by kernel_rfl) (by kernel_rfl) ?_
    iterate 5 ((refine wpY_q rfl rfl _ (fun w' hx' => by go_simp; try rfl) ?_; go_simp))
    refine wpY_ix rfl rfl (.tmp 75) (.tmp 76) rfl Try.elC rfl (fun w' h => hrow5.ext h) (cn - 1) rfl (by omega) (by omega) ?_
    intro b6 o6 hc6
    have hi6 := range_id HY.out hc6
    ((refine wpY_q rfl rfl _ (fun w' hx' => by go_simp; try rfl) ?_; go_simp))
    refine wpY_ld rfl rfl (.tmp 78) rfl b6 o6 rfl [.int .u64 y.s, .int .i64 y.z] _ hi6 Try.underlying44 rfl (by kernel_rfl) ?_
    ((refine wpY_q rfl rfl _ (fun w' hx' => by go_simp; try rfl) ?_; go_simp))
    refine wpY_ld rfl rfl (.tmp 80) rfl w4.heap.size 0 rfl [.int .u64 s, .int .i64 z] _ (box_id hBx5) Try.underlying44 rfl (by kernel_rfl) ?_
    refine wpY_l rfl rfl ?_
    go_simp
    refine (Less_any y.s s y.z z _).mono ?_
    rw [ECL.out]
    rintro e w6 ⟨rfl, hx6⟩
    have E6 := (Ext.drew' w5).trans' hx6
    refine ⟨E6, ?_⟩
    by_cases hless : lessB y x = true
    rotate_left
    · have hless' := Bool.eq_false_iff.2 hless
      rw [hless']
      have e291 : r = .error 291 := by rw [HRES2.out, HBH.out, if_pos hless']
      have H291 := Lib.hid e291
      clear hless hless' e291
      go_simp
      iterate 2 ((refine wpY_q rfl rfl _ (fun w' hx' => by go_simp; try rfl) ?_; go_simp))
      refine wpY_nil ?_
      clear hBx5 hc6 hi6
      have hA6 := E6.heap' hA5
      go_wp2_with (refine wpList_store_row rfl 46 _ _ rfl w.heap.size #[.int .u64 0, .int .i64 0, .slice none 0 0] rfl rfl 46 _ hA6 (by kernel_rfl) rfl (by simp [Value.oneCell']) ?_)
      refine bodyPost_ret (results_c2 (ty := 46) rfl _ w.heap.size [.int .u64 0, .int .i64 0, .slice none 0 0] _ rfl (range_of_heap (setRow_heap _ _ _ #[.int .u64 0, .int .i64 0, .slice none 0 0] _ _ hA6)) Try.underlying46 rfl (by kernel_rfl)) rfl ?_
      rw [H291.out]
      exact ⟨rfl, ext_setRow (E5.trans' E6)⟩
    have eok : r = .ok (dk s z bb, a2 + z) := by rw [HRES2.out, HBH.out, if_neg (by rw [hless]; decide)]
    have HOK := Lib.hid eok
    rw [hless]
    clear eok hless
    go_simp
    iterate 2 ((refine wpY_q rfl rfl _ (fun w' hx' => by go_simp; try rfl) ?_; go_simp))
    refine wpY_nil ?_
    clear hc6 hi6 HBH HY ECL hc1 hc2 hc3 hc4
  rotate_left
  focus
    have hL0 : L = [] := List.eq_nil_of_length_eq_zero (by have := HLl.out; omega)
    have ebh : behindB (L.map Ck.d).getLast? (dk s z bb) = true := by rw [hL0]; rfl
    have eok : r = .ok (dk s z bb, a2 + z) := by rw [HRES2.out, ebh, if_neg (by decide)]
    have HOK := Lib.hid eok
    have hc1 : ¬ (0 : Int) ≤ (cn : Int) - 1 := by omega
    have hc2 : decide ((0 : Int) ≤ (cn : Int) - 1) = false := by simp; omega
    have hc3 : decide (1 ≤ cn) = false := by simp; omega
    have hc4 : decide ((1 : Int) ≤ (cn : Int)) = false := by simp; omega
    have hc5 : decide (0 < cn) = false := by simp; omega
    have hc6 : decide ((0 : Int) < (cn : Int)) = false := by simp; omega
    clear ebh hL0 eok
    refine wp_region_e [] (.qs [0, 1, 2, 3, 4, 5, 6, 7, 8, 9] (.l 10 (.qs [11, 12] .nil))) (by kernel_rfl) (by kernel_rfl) ?_
    iterate 10 (first | ((refine wpY_q rfl rfl _ (fun w' hx' => by go_simp; try rfl) ?_; go_simp)) | ((refine wpY_skip rfl rfl ?_; go_simp)))
    refine wpY_lskip rfl rfl ?_
    go_simp
    iterate 2 (first | ((refine wpY_q rfl rfl _ (fun w' hx' => by go_simp; try rfl) ?_; go_simp)) | ((refine wpY_skip rfl rfl ?_; go_simp)))
    refine wpY_nil ?_
    clear hc1 hc2 hc3 hc4 hc5 hc6
    have E6 := Ext.drew' w5
    generalize w5.drew = w6 at E6 ⊢
  all_goals
    clear hBx5
    have hA6 := E6.heap' hA5
    have hbox6 := range_of_heap (E6.heap' hbox5)
    have hxK6 := hxK.ext (hx45.trans' E6)
    go_wp2_with (first
      | (refine wpList_load_mid rfl 46 _ rfl w4.heap.size 0 rfl [.int .u64 s, .int .i64 z, .slice a4 z c4] _ hbox6 Try.underlying46 rfl (by kernel_rfl) ?_)
      | (refine wpList_store_row rfl 46 _ _ rfl w.heap.size #[.int .u64 s, .int .i64 z, .slice a4 z c4] rfl rfl 46 _ hA6 (by kernel_rfl) rfl (by simp [Value.oneCell']) ?_))
    refine bodyPost_ret (results_c2 (ty := 46) rfl _ w.heap.size [.int .u64 s, .int .i64 z, .slice a4 z c4] _ rfl (range_of_heap (setRow_heap _ _ _ #[.int .u64 s, .int .i64 z, .slice a4 z c4] _ _ hA6)) Try.underlying46 rfl (by kernel_rfl)) rfl ?_
    rw [HOK.out]
    refine ⟨x, HxD.out, ?_, ⟨own_other hxK6.1 (grown_setRow w6 _ _) (Ne.symm (own_apart hxK6.1 hA6 (by decide))), hxK6.2⟩, ext_setRow (E5.trans' E6)⟩
    rw [HX.out]
    rfl
end Go.Proofs.Ytncdcpaelecikaa
