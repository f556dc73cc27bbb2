/-
  Several texts in one: RuA, RuB, RuC, RuD.
-/
import Derived.Test.YtejljmikammcdaaGreatDoorJoined6
/-
  Layer rule: Check, checkBoth, carry.
-/
namespace Go.Proofs.YtejljmikammcdaaGreatDoor
open Go.RowKit

/-! ### A line in memory -/
structure Rl where
  x : Bool
  l : Pt
  r : Pt
instance : Inhabited Rl := ⟨⟨false, default, default⟩⟩
def Rl.cells (k : Rl) : List Value := [.bool k.x, .slice k.l.a k.l.n k.l.c, .bool k.l.P.rest, .slice k.r.a k.r.n k.r.c, .bool k.r.P.rest]
abbrev Rl.v (k : Rl) : Value := .agg #[.bool k.x, .slice k.l.a k.l.n k.l.c, .bool k.l.P.rest, .slice k.r.a k.r.n k.r.c, .bool k.r.P.rest]
theorem rl_five (k : Rl) : k.cells.length = 5 := rfl
theorem rl_one (k : Rl) : ∀ v ∈ k.cells, v.oneCell' = true := fun v hv => by
  simp [Rl.cells] at hv
  rcases hv with rfl | rfl | rfl | rfl | rfl <;> rfl
abbrev rbox (k : Rl) : Obj := .cells #[.bool k.x, .slice k.l.a k.l.n k.l.c, .bool k.l.P.rest, .slice k.r.a k.r.n k.r.c, .bool k.r.P.rest] 48
structure RlI (w : World) (S : Nat) (k : Rl) : Prop where
  l : PtI w S k.l
  r : PtI w S k.r
theorem RlI.ext {w w' : World} {S : Nat} {k : Rl} (h : RlI w S k) (hx : Ext w w') : RlI w' S k := ⟨h.l.ext hx, h.r.ext hx⟩
theorem RlI.mono {w : World} {S T : Nat} {k : Rl} (h : RlI w S k) (hs : S ≤ T) : RlI w T k := ⟨h.l.mono hs, h.r.mono hs⟩
structure RlO (w : World) (B S : Nat) (k : Rl) : Prop where
  l : PtO w B S k.l
  r : PtO w B S k.r
theorem RlO.ext {w w' : World} {B S : Nat} {k : Rl} (h : RlO w B S k) (hx : Ext w w') : RlO w' B S k := ⟨h.l.ext hx, h.r.ext hx⟩
theorem RlO.base {w : World} {B B' S : Nat} {k : Rl} (h : RlO w B' S k) (hB : B ≤ B') : RlO w B S k := ⟨h.l.base hB, h.r.base hB⟩
theorem RlO.i {w : World} {B S : Nat} {k : Rl} (h : RlO w B S k) : RlI w S k := ⟨h.l.i, h.r.i⟩
theorem range_box {w : World} {g : Nat} {cs : Array Value} {t : TypeId} {fr : Nat × Nat} (h : w.heap[g]? = some (.cells cs t fr)) (o : Nat) (L : List Value) (hL : ∀ j v, L[j]? = some v → cs[o + j]? = some v) : w.rangeAt g o L := fun j v hj => by
  rw [cell_of_row w g (o + j) _ _ _ h]
  exact hL j v hj
/-- A box of five cells. -/
theorem box5 {w : World} {g : Nat} {x y z u v : Value} {t : TypeId} {fr : Nat × Nat} (h : w.heap[g]? = some (.cells #[x, y, z, u, v] t fr)) :
    w.cell? ⟨g, 0, none⟩ = some x ∧ w.rangeAt g 1 [y, z] ∧ w.rangeAt g 3 [u, v] ∧ w.rangeAt g 0 [x, y, z, u, v] := by
  refine ⟨by rw [cell_of_row w g 0 _ _ _ h]; rfl, range_box h 1 _ ?_, range_box h 3 _ ?_, range_box h 0 _ ?_⟩
  · intro j v hj
    match j, hj with
    | 0, hj => exact hj
    | 1, hj => exact hj
    | j + 2, hj => simp at hj
  · intro j v hj
    match j, hj with
    | 0, hj => exact hj
    | 1, hj => exact hj
    | j + 2, hj => simp at hj
  · intro j v hj
    simpa using hj

/-- rule.Check: what it answers. -/
def RckO (l r : Pat) (w : World) (en : Ending) (w' : World) : Prop := ∃ e : Nat, en = .returned (.int .i64 (e : Nat)) ∧ (e = 0 ↔ OkR l r) ∧ Ext w w'
set_option maxRecDepth 100000 in
set_option maxHeartbeats 2000000 in
theorem RCheck_any (k : Rl) (S : Nat) (w : World) (hk : RlI w S k) (hS : S < 4611686018427387904) : Calls Tryz.prog 41 #[k.v] w (RckO k.l.P k.r.P w) := by
  obtain ⟨x, ⟨la, ln, lc, lP⟩, ⟨ra, rn, rc, rP⟩⟩ := k
  have HKL := Lib.hid fun w' (h : Ext w w') => Kinds_any ⟨la, ln, lc, lP⟩ S w' (hk.l.ext h) hS
  have HKR := Lib.hid fun w' (h : Ext w w') => Kinds_any ⟨ra, rn, rc, rP⟩ S w' (hk.r.ext h) hS
  obtain ⟨post, hpo⟩ : ∃ p : Ending → World → Prop, p = RckO lP rP w := ⟨_, rfl⟩
  rw [← hpo]
  have HPO := Lib.hid hpo
  clear hpo hk
  have HX := Lib.hid (Ext.alloc' w (.cells #[.bool x, .slice la ln lc, .bool lP.rest, .slice ra rn rc, .bool rP.rest] 48))
  have hh := heap_alloc_new w (.cells #[.bool x, .slice la ln lc, .bool lP.rest, .slice ra rn rc, .bool rP.rest] 48)
  go_enter Tryz.func41, Tryz.ntmps41
  go_upto_region 1 with fail
  change Code.wp _ _ _ _ (w.alloc (.cells #[.bool x, .slice la ln lc, .bool lP.rest, .slice ra rn rc, .bool rP.rest] 48))
  generalize w.alloc (.cells #[.bool x, .slice la ln lc, .bool lP.rest, .slice ra rn rc, .bool rP.rest] 48) = w1 at HX hh ⊢
  generalize w.heap.size = b at hh ⊢
  have HB := Lib.hid hh
  have hr10 := (box5 hh).2.1
  clear hh
  go_upto_region 2 with (first
    | ((with_reducible refine atSlot 10 ?_); refine wpList_of_wp rfl (wp_load_mid (op := ⟨some 10, _, _, _, _, _⟩) 39 _ rfl b 1 rfl [.slice la ln lc, .bool lP.rest] _ hr10 Tryz.underlying39 rfl (by kernel_rfl) ?_); clear hr10)
    | (go_at_call 74; (with_reducible refine (HKL.out _ HX.out).mono ?_); rintro en w2 ⟨⟨e, r, s, rfl, h2, h3⟩, hx2⟩; have H2 := Lib.hid h2; have H3 := Lib.hid h3; have HX2 := Lib.hid (HX.out.trans' hx2); have hr19 := (box5 (hx2.heap' HB.out)).2.2.1; clear h2 h3 hx2)
    | fail)
  by_cases he0 : e = 0
  · subst he0
    obtain ⟨rfl, rfl⟩ := H3.out rfl
    have HL := Lib.hid (H2.out.1 rfl)
    obtain ⟨s, hs⟩ : ∃ s, s = stars lP.parts := ⟨_, rfl⟩
    rw [← hs]
    obtain ⟨r1, hr1⟩ : ∃ r, r = lP.rest := ⟨_, rfl⟩
    rw [← hr1]
    have HS1 := Lib.hid hs
    have HR1 := Lib.hid hr1
    clear hs hr1
    go_upto_region 5 with (first
      | ((with_reducible refine atSlot 19 ?_); refine wpList_of_wp rfl (wp_load_mid (op := ⟨some 19, _, _, _, _, _⟩) 39 _ rfl b 3 rfl [.slice ra rn rc, .bool rP.rest] _ hr19 Tryz.underlying39 rfl (by kernel_rfl) ?_); clear hr19)
      | (go_at_call 74; (with_reducible refine (HKR.out _ HX2.out).mono ?_); rintro en w3 ⟨⟨e', r', s', rfl, h2, h3⟩, hx3⟩; have H4 := Lib.hid h2; have H5 := Lib.hid h3; have HX3 := Lib.hid (HX2.out.trans' hx3); clear h2 h3 hx3)
      | fail)
    by_cases he1 : e' = 0
    · subst he1
      obtain ⟨hs', hr'⟩ := H5.out rfl
      have HR := Lib.hid (H4.out.1 rfl)
      have HS2 := Lib.hid hs'
      have HR2 := Lib.hid hr'
      clear hs' hr' H3 H5
      by_cases hss : s = s'
      · obtain ⟨q1, q2⟩ := eqI (x := (s : Int)) (y := (s' : Int)) (by omega)
        by_cases hrr : r1 = r'
        · have HG := Lib.hid (show OkR lP rP from ⟨HL.out, HR.out, by rw [← HS1.out, ← HS2.out]; exact hss, by rw [← HR1.out, ← HR2.out]; exact hrr⟩)
          clear hss
          subst hrr
          go_wp2
          rw [HPO.out]
          exact ⟨0, rfl, ⟨fun _ => HG.out, fun _ => rfl⟩, HX3.out⟩
        · have HG := Lib.hid (show ¬ OkR lP rP from fun h => hrr (by rw [HR1.out, HR2.out]; exact h.rest))
          have hne : (r1 == r') = false := by simp [hrr]
          clear hss
          go_wp2
          rw [HPO.out]
          exact ⟨42, rfl, ⟨(fun h => by cases h), fun h => absurd h HG.out⟩, HX3.out⟩
      · obtain ⟨q1, q2⟩ := neI (x := (s : Int)) (y := (s' : Int)) (by omega)
        have HG := Lib.hid (show ¬ OkR lP rP from fun h => hss (by rw [HS1.out, HS2.out]; exact h.st))
        clear hss
        go_wp2
        rw [HPO.out]
        exact ⟨42, rfl, ⟨(fun h => by cases h), fun h => absurd h HG.out⟩, HX3.out⟩
    · obtain ⟨q1, q2⟩ := neI (x := (e' : Int)) (y := 0) (by omega)
      have HG := Lib.hid (show ¬ OkR lP rP from fun h => he1 (H4.out.2 h.right))
      clear he1
      go_wp2
      rw [HPO.out]
      exact ⟨41, rfl, ⟨(fun h => by cases h), fun h => absurd h HG.out⟩, HX3.out⟩
  · obtain ⟨q1, q2⟩ := neI (x := (e : Int)) (y := 0) (by omega)
    have HG := Lib.hid (show ¬ OkR lP rP from fun h => he0 (H2.out.2 h.left))
    clear he0
    go_wp2
    rw [HPO.out]
    exact ⟨40, rfl, ⟨(fun h => by cases h), fun h => absurd h HG.out⟩, HX2.out⟩

/-! ### checkBoth -/
theorem two_rboxes (w : World) (x y : Array Value) (t u : TypeId) : Ext w ((w.alloc (.cells x t)).alloc (.cells y u)) ∧
    ((w.alloc (.cells x t)).alloc (.cells y u)).heap[w.heap.size]? = some (.cells x t) ∧ ((w.alloc (.cells x t)).alloc (.cells y u)).heap[w.heap.size + 1]? = some (.cells y u) := two_boxes w x y t u
def RcbO (a b c d : Pat) (w : World) (en : Ending) (w' : World) : Prop := ∃ e : Nat, en = .returned (.int .i64 (e : Nat)) ∧ (e = 0 ↔ OkR a b ∧ OkR c d) ∧ Ext w w'
set_option maxRecDepth 100000 in
set_option maxHeartbeats 2000000 in
theorem RcheckBoth_any (k g : Rl) (S : Nat) (w : World) (hk : RlI w S k) (hg : RlI w S g) (hS : S < 4611686018427387904) : Calls Tryz.prog 58 #[k.v, g.v] w (RcbO k.l.P k.r.P g.l.P g.r.P w) := by
  have HK := Lib.hid fun w' (h : Ext w w') => RCheck_any k S w' (hk.ext h) hS
  have HG := Lib.hid fun w' (h : Ext w w') => RCheck_any g S w' (hg.ext h) hS
  obtain ⟨x, ⟨la, ln, lc, lP⟩, ⟨ra, rn, rc, rP⟩⟩ := k
  obtain ⟨x', ⟨la', ln', lc', lP'⟩, ⟨ra', rn', rc', rP'⟩⟩ := g
  obtain ⟨post, hpo⟩ : ∃ p : Ending → World → Prop, p = RcbO lP rP lP' rP' w := ⟨_, rfl⟩
  rw [← hpo]
  have HPO := Lib.hid hpo
  have HX := Lib.hid (two_boxes w #[.bool x, .slice la ln lc, .bool lP.rest, .slice ra rn rc, .bool rP.rest] #[.bool x', .slice la' ln' lc', .bool lP'.rest, .slice ra' rn' rc', .bool rP'.rest] 48 48)
  clear hpo hk hg
  go_enter Tryz.func58, Tryz.ntmps58
  go_upto_region 1 with fail
  generalize (w.alloc (.cells #[.bool x, .slice la ln lc, .bool lP.rest, .slice ra rn rc, .bool rP.rest] 48)).alloc (.cells #[.bool x', .slice la' ln' lc', .bool lP'.rest, .slice ra' rn' rc', .bool rP'.rest] 48) = w2 at HX ⊢
  obtain ⟨hx2, hh1, hh2⟩ := HX.out
  have HX2 := Lib.hid hx2
  have HB2 := Lib.hid hh2
  have hr6 := (box5 hh1).2.2.2
  generalize w.heap.size = b at HB2 hr6 ⊢
  clear hx2 hh1 hh2 HX
  go_upto_region 2 with (first
    | ((with_reducible refine atSlot 6 ?_); refine wpList_of_wp rfl (wp_load_mid (op := ⟨some 6, _, _, _, _, _⟩) 48 _ rfl b 0 rfl [.bool x, .slice la ln lc, .bool lP.rest, .slice ra rn rc, .bool rP.rest] _ hr6 Tryz.underlying48 rfl (by kernel_rfl) ?_); clear hr6)
    | (go_at_call 41; (with_reducible refine (HK.out _ HX2.out).mono ?_); rintro en w3 ⟨e, rfl, h2, hx3⟩; have H2 := Lib.hid h2; have HX3 := Lib.hid (HX2.out.trans' hx3); have hr11 := (box5 (hx3.heap' HB2.out)).2.2.2; clear h2 hx3)
    | fail)
  by_cases he0 : e = 0
  · subst he0
    have HL := Lib.hid (H2.out.1 rfl)
    go_wp2_with (first
      | ((with_reducible refine atSlot 11 ?_); refine wpList_of_wp rfl (wp_load_mid (op := ⟨some 11, _, _, _, _, _⟩) 48 _ rfl (b + 1) 0 rfl [.bool x', .slice la' ln' lc', .bool lP'.rest, .slice ra' rn' rc', .bool rP'.rest] _ hr11 Tryz.underlying48 rfl (by kernel_rfl) ?_); clear hr11)
      | (go_at_call 41; (with_reducible refine (HG.out _ HX3.out).mono ?_); rintro en w4 ⟨e', rfl, h4, hx4⟩; have H4 := Lib.hid h4; have HX4 := Lib.hid (HX3.out.trans' hx4); clear h4 hx4)
      | fail)
    rw [HPO.out]
    exact ⟨e', rfl, ⟨fun h => ⟨HL.out, H4.out.1 h⟩, fun h => H4.out.2 h.2⟩, HX4.out⟩
  · obtain ⟨q1, q2⟩ := neI (x := (e : Int)) (y := 0) (by omega)
    go_wp2
    rw [HPO.out]
    exact ⟨e, rfl, ⟨fun h => absurd h he0, fun h => H2.out.2 h.1⟩, HX3.out⟩

/-! ### carry -/
theorem four_boxes (w : World) (x y z u : Array Value) (t : TypeId) : Ext w ((((w.alloc (.cells x t)).alloc (.cells y t)).alloc (.cells z t)).alloc (.cells u t)) ∧
    ((((w.alloc (.cells x t)).alloc (.cells y t)).alloc (.cells z t)).alloc (.cells u t)).heap[w.heap.size]? = some (.cells x t) ∧
    ((((w.alloc (.cells x t)).alloc (.cells y t)).alloc (.cells z t)).alloc (.cells u t)).heap[w.heap.size + 1]? = some (.cells y t) ∧
    ((((w.alloc (.cells x t)).alloc (.cells y t)).alloc (.cells z t)).alloc (.cells u t)).heap[w.heap.size + 2]? = some (.cells z t) ∧
    ((((w.alloc (.cells x t)).alloc (.cells y t)).alloc (.cells z t)).alloc (.cells u t)).heap[w.heap.size + 3]? = some (.cells u t) := by
  obtain ⟨h1, h2, h3, h4⟩ := three_boxes w x y z t t t
  refine ⟨h1.trans' (Ext.alloc' _ _), (Ext.alloc' _ _).heap' h2, (Ext.alloc' _ _).heap' h3, (Ext.alloc' _ _).heap' h4, ?_⟩
  have := heap_alloc_new (((w.alloc (.cells x t)).alloc (.cells y t)).alloc (.cells z t)) (.cells u t)
  simpa using this
/-- rule.carry: what it answers. -/
def CarO (f n t : Pat) (S : Nat) (w : World) (en : Ending) (w' : World) : Prop :=
  ∃ (r : Pt) (e : Nat), en = .returned (.tuple #[r.v, .int .i64 (e : Nat)]) ∧ (e = 0 ↔ (carry f n t).parts.length ≤ 12) ∧ (e = 0 → r.P = carry f n t) ∧ PtO w' w.heap.size (S + S) r ∧ Ext w w'
theorem carry_len (f n t : Pat) : (carry f n t).parts.length = t.parts.length + (n.parts.drop f.parts.length).length := by
  show (subst t.parts _ ++ _).length = _
  rw [List.length_append, subst_length]
theorem sub_carry {f n t : Pat} (hi : insideL n.parts n.rest f.parts f.rest = true) (hr : f.rest = t.rest) : subR t (binds f.parts n.parts) (n.parts.drop f.parts.length) n.rest = carry f n t := by
  unfold subR carry
  cases ht : t.rest with
  | true => simp
  | false =>
    have h := (inside_binds _ _ _ _ hi).2.2.2
    rw [hr, ht] at h
    have h2 : n.rest = false := h.2
    rw [h2]; simp
set_option maxRecDepth 100000 in
set_option maxHeartbeats 4000000 in
theorem carry_any (f n t : Pt) (S : Nat) (w : World) (hf : PtI w S f) (hn : PtI w S n) (ht : PtI w S t) (hS : S ≤ 1073741824) (hof : OkP f.P) (hon : OkP n.P) (hot : OkP t.P)
    (hin : insideL n.P.parts n.P.rest f.P.parts f.P.rest = true) (hst : stars f.P.parts = stars t.P.parts) (hrr : f.P.rest = t.P.rest) :
    Calls Tryz.prog 59 #[f.v, n.v, t.v] w (CarO f.P n.P t.P S w) := by
  have HBI := Lib.hid fun w' (h : Ext w w') => Bind_any f n S w' (hf.ext h) (hn.ext h) hS hof hon hin
  have HSU := Lib.hid fun a1 c1 (Ls : List Pt) w' (h : Ext w w') (h1 : Row w' a1 Ls.length c1 2 (Ls.flatMap Pt.cells)) (h2 : ∀ q ∈ Ls, PtI w' S q) (h3 : Ls.map Pt.P = bindL f.P n.P) =>
    (Substitute_any t a1 c1 Ls (binds f.P.parts n.P.parts) (n.P.parts.drop f.P.parts.length) n.P.rest S w' (ht.ext h) hS hot h1 h2 (by rw [h3]; unfold bindL bndL; rw [hrr]) (by rw [(inside_binds _ _ _ _ hin).1, hst])
      (fun b hb => by
        have := subst_form _ _ _ _ hin hon.form b hb [] (by simp)
        simpa using this)
      (fun d hd => hon.form d (List.mem_of_mem_drop hd)) (by rw [← hrr]; exact (inside_binds _ _ _ _ hin).2.2.2) (by rw [List.length_drop]; have := hon.le; omega)).mono fun en w'' hh => (show CarO f.P n.P t.P S w' en w'' from by
        obtain ⟨r, e, g1, g2, g3, g4, g5⟩ := hh
        exact ⟨r, e, g1, by rw [carry_len]; exact g2, fun h => by rw [g3 h]; exact sub_carry hin hrr, g4, g5⟩)
  clear hf hn ht hof hon hot hin hst hrr
  obtain ⟨fa, fn, fc, fP⟩ := f
  obtain ⟨na, nn, nc, nP⟩ := n
  obtain ⟨ta, tn, tc, tP⟩ := t
  obtain ⟨post, hpo⟩ : ∃ p : Ending → World → Prop, p = CarO fP nP tP S w := ⟨_, rfl⟩
  rw [← hpo]
  have HPO := Lib.hid hpo
  have HX := Lib.hid (four_boxes w #[.slice fa fn fc, .bool fP.rest] #[.slice na nn nc, .bool nP.rest] #[.slice ta tn tc, .bool tP.rest] #[.slice none 0 0, .bool false] 39)
  clear hpo
  go_enter Tryz.func59, Tryz.ntmps59
  go_upto_region 1 with fail
  generalize (((w.alloc (.cells #[.slice fa fn fc, .bool fP.rest] 39)).alloc (.cells #[.slice na nn nc, .bool nP.rest] 39)).alloc (.cells #[.slice ta tn tc, .bool tP.rest] 39)).alloc (.cells #[.slice none 0 0, .bool false] 39) = w2 at HX ⊢
  obtain ⟨hx2, hh1, hh2, hh3, hh4⟩ := HX.out
  have HX2 := Lib.hid hx2
  have HB3 := Lib.hid hh3
  have HB4 := Lib.hid hh4
  have hr13 := (box2 hh1).2.2
  have hr14 := (box2 hh2).2.2
  obtain ⟨b, hb⟩ : ∃ b, b = w.heap.size := ⟨_, rfl⟩
  rw [← hb] at HB3 HB4 hr13 hr14 ⊢
  have HBB := Lib.hid hb
  clear hx2 hh1 hh2 hh3 hh4 HX hb
  go_upto_region 2 with (first
    | ((with_reducible refine atSlot 13 ?_); refine wpList_of_wp rfl (wp_load_mid (op := ⟨some 13, _, _, _, _, _⟩) 39 _ rfl b 0 rfl [.slice fa fn fc, .bool fP.rest] _ hr13 Tryz.underlying39 rfl (by kernel_rfl) ?_); clear hr13)
    | ((with_reducible refine atSlot 14 ?_); refine wpList_of_wp rfl (wp_load_mid (op := ⟨some 14, _, _, _, _, _⟩) 39 _ rfl (b + 1) 0 rfl [.slice na nn nc, .bool nP.rest] _ hr14 Tryz.underlying39 rfl (by kernel_rfl) ?_); clear hr14)
    | (go_at_call 87; (with_reducible refine (HBI.out _ HX2.out).mono ?_); rintro en w3 ⟨a1, c1, Ls, rfl, h2, h3, h4, hx3⟩; have H2 := Lib.hid h2; have H3 := Lib.hid h3; have H4 := Lib.hid h4; have HX3 := Lib.hid (HX2.out.trans' hx3); have hr19 := (box2 (hx3.heap' HB3.out)).2.2; have HF3 := Lib.hid (hx3.heap' HB4.out); clear h2 h3 h4 hx3)
    | fail)
  go_upto_region 3 with (first
    | ((with_reducible refine atSlot 19 ?_); refine wpList_of_wp rfl (wp_load_mid (op := ⟨some 19, _, _, _, _, _⟩) 39 _ rfl (b + 2) 0 rfl [.slice ta tn tc, .bool tP.rest] _ hr19 Tryz.underlying39 rfl (by kernel_rfl) ?_); clear hr19)
    | (go_at_call 88; (with_reducible refine (HSU.out a1 c1 Ls _ HX3.out H3.out H4.out H2.out).mono ?_); rintro en w4 ⟨⟨ra, rn, rc, rP⟩, e, rfl, h2, h3, h4, hx4⟩; have G2 := Lib.hid h2; have G3 := Lib.hid h3; have G4 := Lib.hid h4; have HX4 := Lib.hid (HX3.out.trans' hx4); have HX34 := Lib.hid hx4; have HF4 := Lib.hid (hx4.heap' HF3.out); have hn4 := heap_alloc_new w4 (.cells #[.slice none 0 0, .bool false] 39); have HP4 := Lib.hid (put_new w4 #[.slice none 0 0, .bool false] #[.slice ra rn rc, .bool rP.rest] 39); clear h2 h3 h4 hx4)
    | ((with_reducible refine atStore 10 ?_); refine wpList_of_wp rfl (wp_store_row (o := ⟨none, _, _, _, _, _⟩) _ _ _ rfl w4.heap.size #[.slice ra rn rc, .bool rP.rest] rfl rfl _ _ hn4 (by kernel_rfl) rfl (by simp [Value.oneCell']) ?_); clear hn4)
    | fail)
  generalize (w4.alloc (.cells #[.slice none 0 0, .bool false] 39)).setRow w4.heap.size #[.slice ra rn rc, .bool rP.rest] = w5 at HP4 ⊢
  obtain ⟨hx5, hb5⟩ := HP4.out
  have HX5 := Lib.hid hx5
  have HF5 := Lib.hid (hx5.heap' HF4.out)
  have HSZ := Lib.hid (show w.heap.size ≤ w3.heap.size from HX3.out.size)
  by_cases he0 : e = 0
  · subst he0
    obtain rfl := G3.out rfl
    have hr27 := (box2 hb5).2.2
    have HG2 := Lib.hid (G2.out.1 rfl)
    generalize w4.heap.size = g4 at hr27 ⊢
    clear hb5 hx5
    go_wp2_with (first
      | ((with_reducible refine atSlot 27 ?_); refine wpList_of_wp rfl (wp_load_mid (op := ⟨some 27, _, _, _, _, _⟩) 39 _ rfl g4 0 rfl [.slice ra rn rc, .bool (carry fP nP tP).rest] _ hr27 Tryz.underlying39 rfl (by kernel_rfl) ?_); clear hr27)
      | ((with_reducible refine atStore 6 ?_); refine wpList_of_wp rfl (wp_store_row (o := ⟨none, _, _, _, _, _⟩) _ _ _ rfl (b + 3) #[.slice ra rn rc, .bool (carry fP nP tP).rest] rfl rfl _ _ HF5.out (by kernel_rfl) rfl (by simp [Value.oneCell']) ?_))
      | fail)
    refine bodyPost_ret (results_c1 (ty := 39) rfl _ (b + 3) [.slice ra rn rc, .bool (carry fP nP tP).rest] _ rfl (range_of_heap2 (setRow_heap _ _ _ _ _ _ HF5.out)) Tryz.underlying39 rfl (by kernel_rfl)) rfl ?_
    rw [HPO.out]
    have ho := own_other (own_base (own_ext G4.out.own HX5.out) HSZ.out) (grown_setRow w5 (b + 3) #[.slice ra rn rc, .bool (carry fP nP tP).rest]) (fun e => own_apart (own_ext G4.out.own HX5.out) HF5.out (by decide) e.symm)
    exact ⟨⟨ra, rn, rc, carry fP nP tP⟩, 0, rfl, ⟨fun _ => HG2.out, fun _ => rfl⟩, fun _ => rfl, ⟨ho, G4.out.small⟩, (HX4.out.trans' HX5.out).setRow (by rw [HBB.out]; omega)⟩
  · obtain ⟨q1, q2⟩ := neI (x := (e : Int)) (y := 0) (by omega)
    have HG2 := Lib.hid (fun h => he0 (G2.out.2 h))
    clear hb5 hx5 he0
    go_wp2_with (first
      | ((with_reducible refine atStore 6 ?_); refine wpList_of_wp rfl (wp_store_row (o := ⟨none, _, _, _, _, _⟩) _ _ _ rfl (b + 3) #[.slice none 0 0, .bool false] rfl rfl _ _ HF5.out (by kernel_rfl) rfl (by simp [Value.oneCell']) ?_))
      | fail)
    refine bodyPost_ret (results_c1 (ty := 39) rfl _ (b + 3) [.slice none 0 0, .bool false] _ rfl (range_of_heap2 (setRow_heap _ _ _ _ _ _ HF5.out)) Tryz.underlying39 rfl (by kernel_rfl)) rfl ?_
    rw [HPO.out]
    exact ⟨⟨none, 0, 0, ⟨[], false⟩⟩, 43, rfl, ⟨(fun h => by cases h), fun h => absurd h HG2.out⟩, (fun h => by cases h), PtO.nil _ _ _, (HX4.out.trans' HX5.out).setRow (by rw [HBB.out]; omega)⟩
end Go.Proofs.YtejljmikammcdaaGreatDoor
/-
  Layer rule: NarrowLeft.
-/
namespace Go.Proofs.YtejljmikammcdaaGreatDoor
open Go.RowKit

/-- rule.NarrowLeft: what it answers. -/
def NlO (l r p : Pat) (S : Nat) (w : World) (en : Ending) (w' : World) : Prop :=
  ∃ (g : Rl) (q : Bool) (e : Nat), en = .returned (.tuple #[g.v, .bool q, .int .i64 (e : Nat)]) ∧
    ((e = 0 → OkR l r ∧ OkP p ∧ ∃ o, NarL l r p o ∧ q = o.isSome ∧ ∀ m c, o = some (m, c) → g.l.P = m ∧ g.r.P = c) ∧ (e ≠ 0 → OkR l r → OkP p → ∃ m, meetP l p = some m ∧ 12 < (carry l m r).parts.length)) ∧ RlO w' w.heap.size (S + S) g ∧ Ext w w'
abbrev Rl.none : Rl := ⟨false, ⟨.none, 0, 0, ⟨[], false⟩⟩, ⟨.none, 0, 0, ⟨[], false⟩⟩⟩
theorem RlO.nil (w : World) (B S : Nat) : RlO w B S Rl.none := ⟨PtO.nil _ _ _, PtO.nil _ _ _⟩
set_option maxRecDepth 100000 in
set_option maxHeartbeats 4000000 in
theorem NarrowLeft_any (k : Rl) (p : Pt) (S : Nat) (w : World) (hk : RlI w S k) (hp : PtI w S p) (hS : S ≤ 1073741824) :
    Calls Tryz.prog 42 #[k.v, p.v] w (NlO k.l.P k.r.P p.P S w) := by
  have HCK := Lib.hid fun w' (h : Ext w w') => RCheck_any k S w' (hk.ext h) (by omega)
  have HCP := Lib.hid fun w' (h : Ext w w') => Check_any p S w' (hp.ext h) (by omega)
  have HCO := Lib.hid (show chkP p.P = 0 ↔ OkP p.P from okP_iff.symm.trans okP_of)
  have HME := Lib.hid fun w' (h : Ext w w') => Meet_any k.l p S w' (hk.l.ext h) (hp.ext h) hS
  have HCA := Lib.hid fun (m : Pt) w' (h : Ext w w') (h1 : PtI w' S m) (h2 : meetP k.l.P p.P = some m.P) (h3 : OkR k.l.P k.r.P) =>
    carry_any k.l m k.r S w' (hk.l.ext h) h1 (hk.r.ext h) hS h3.left (meetP_some h2).1 h3.right (meetP_some h2).2.1 h3.st h3.rest
  clear hk hp
  obtain ⟨x, ⟨la, ln, lc, lP⟩, ⟨ra, rn, rc, rP⟩⟩ := k
  obtain ⟨pa, pn, pc, pP⟩ := p
  obtain ⟨cp, hcp⟩ : ∃ c, c = chkP pP := ⟨_, rfl⟩
  have HCP' := Lib.hid (show ∀ w', Ext w w' → Calls Tryz.prog 75 #[.agg #[.slice pa pn pc, .bool pP.rest]] w' (NewNone (.int .i64 (cp : Nat)) w') from by rw [hcp]; exact HCP.out)
  have HCO' := Lib.hid (show cp = 0 ↔ OkP pP from by rw [hcp]; exact HCO.out)
  obtain ⟨M, hM⟩ : ∃ M, M = meetP lP pP := ⟨_, rfl⟩
  have HM := Lib.hid hM
  have HME' := Lib.hid (show ∀ w', Ext w w' → Calls Tryz.prog 43 #[.agg #[.slice la ln lc, .bool lP.rest], .agg #[.slice pa pn pc, .bool pP.rest]] w' (fun en w'' => ∃ r : Pt, en = .returned (.tuple #[r.v, .bool M.isSome]) ∧ (∀ m, M = some m → r.P = m) ∧ PtO w'' w'.heap.size S r ∧ Ext w' w'') from by rw [hM]; exact HME.out)
  have HCA' := Lib.hid (show ∀ (m : Pt) w', Ext w w' → PtI w' S m → M = some m.P → OkR lP rP → Calls Tryz.prog 59 #[.agg #[.slice la ln lc, .bool lP.rest], m.v, .agg #[.slice ra rn rc, .bool rP.rest]] w' (CarO lP m.P rP S w') from by rw [hM]; exact HCA.out)
  obtain ⟨post, hpo⟩ : ∃ q : Ending → World → Prop, q = NlO lP rP pP S w := ⟨_, rfl⟩
  rw [← hpo]
  have HPO := Lib.hid hpo
  have HX := Lib.hid (three_boxes w #[.bool x, .slice la ln lc, .bool lP.rest, .slice ra rn rc, .bool rP.rest] #[.slice pa pn pc, .bool pP.rest] #[.bool false, .slice none 0 0, .bool false, .slice none 0 0, .bool false] 48 39 48)
  clear hpo hcp hM HCP HCO HME HCA
  go_enter Tryz.func42, Tryz.ntmps42
  go_upto_region 1 with fail
  generalize ((w.alloc (.cells #[.bool x, .slice la ln lc, .bool lP.rest, .slice ra rn rc, .bool rP.rest] 48)).alloc (.cells #[.slice pa pn pc, .bool pP.rest] 39)).alloc (.cells #[.bool false, .slice none 0 0, .bool false, .slice none 0 0, .bool false] 48) = w2 at HX ⊢
  obtain ⟨hx2, hh1, hh2, hh3⟩ := HX.out
  have HX2 := Lib.hid hx2
  have HB1 := Lib.hid hh1
  have HB2 := Lib.hid hh2
  have HB3 := Lib.hid hh3
  have hr13 := (box5 hh1).2.2.2
  obtain ⟨b, hb⟩ : ∃ b, b = w.heap.size := ⟨_, rfl⟩
  rw [← hb] at HB1 HB2 HB3 hr13 ⊢
  have HBB := Lib.hid hb
  clear hx2 hh1 hh2 hh3 HX hb
  go_upto_region 2 with (first
    | ((with_reducible refine atSlot 13 ?_); refine wpList_of_wp rfl (wp_load_mid (op := ⟨some 13, _, _, _, _, _⟩) 48 _ rfl b 0 rfl [.bool x, .slice la ln lc, .bool lP.rest, .slice ra rn rc, .bool rP.rest] _ hr13 Tryz.underlying48 rfl (by kernel_rfl) ?_); clear hr13)
    | (go_at_call 41; (with_reducible refine (HCK.out _ HX2.out).mono ?_); rintro en w3 ⟨e, rfl, h2, hx3⟩; have H2 := Lib.hid h2; have HX3 := Lib.hid (HX2.out.trans' hx3); have HC1 := Lib.hid (hx3.heap' HB1.out); have HC2 := Lib.hid (hx3.heap' HB2.out); have HC3 := Lib.hid (hx3.heap' HB3.out); clear h2 hx3)
    | fail)
  clear HB1 HB2 HB3
  have hr19 := (box2 HC2.out).2.2
  by_cases he0 : e ≠ 0
  · obtain ⟨q1, q2⟩ := neI (x := (e : Int)) (y := 0) (by omega)
    go_wp2_with (first
      | ((with_reducible refine atStore 4 ?_); refine wpList_of_wp rfl (wp_store_row (o := ⟨none, _, _, _, _, _⟩) _ _ _ rfl (b + 2) #[.bool false, .slice none 0 0, .bool false, .slice none 0 0, .bool false] rfl rfl _ _ HC3.out (by kernel_rfl) rfl (by simp [Value.oneCell']) ?_))
      | fail)
    refine bodyPost_ret (results_c2 (ty := 48) rfl _ (b + 2) [.bool false, .slice none 0 0, .bool false, .slice none 0 0, .bool false] _ rfl (box5 (setRow_heap _ _ _ _ _ _ HC3.out)).2.2.2 Tryz.underlying48 rfl (by kernel_rfl)) rfl ?_
    rw [HPO.out]
    exact ⟨Rl.none, false, e, rfl, ⟨fun h => absurd h he0, fun _ h _ => absurd (H2.out.2 h) he0⟩, RlO.nil _ _ _, HX3.out.setRow (by rw [HBB.out]; omega)⟩
  replace he0 : e = 0 := by omega
  subst he0
  have HR := Lib.hid (H2.out.1 rfl)
  clear H2
  go_upto_region 5 with (first
    | ((with_reducible refine atSlot 19 ?_); refine wpList_of_wp rfl (wp_load_mid (op := ⟨some 19, _, _, _, _, _⟩) 39 _ rfl (b + 1) 0 rfl [.slice pa pn pc, .bool pP.rest] _ hr19 Tryz.underlying39 rfl (by kernel_rfl) ?_); clear hr19)
    | (go_at_call 75; (with_reducible refine (HCP'.out _ HX3.out).mono ?_); rintro en w4 ⟨rfl, hx4⟩; have HX4 := Lib.hid (HX3.out.trans' hx4); have HD1 := Lib.hid (hx4.heap' HC1.out); have HD2 := Lib.hid (hx4.heap' HC2.out); have HD3 := Lib.hid (hx4.heap' HC3.out); clear hx4)
    | fail)
  clear HC1 HC2 HC3
  have hr27 := (box5 HD1.out).2.1
  have hr28 := (box2 HD2.out).2.2
  by_cases hc0 : cp ≠ 0
  · obtain ⟨q1, q2⟩ := neI (x := (cp : Int)) (y := 0) (by omega)
    go_wp2_with (first
      | ((with_reducible refine atStore 4 ?_); refine wpList_of_wp rfl (wp_store_row (o := ⟨none, _, _, _, _, _⟩) _ _ _ rfl (b + 2) #[.bool false, .slice none 0 0, .bool false, .slice none 0 0, .bool false] rfl rfl _ _ HD3.out (by kernel_rfl) rfl (by simp [Value.oneCell']) ?_))
      | fail)
    refine bodyPost_ret (results_c2 (ty := 48) rfl _ (b + 2) [.bool false, .slice none 0 0, .bool false, .slice none 0 0, .bool false] _ rfl (box5 (setRow_heap _ _ _ _ _ _ HD3.out)).2.2.2 Tryz.underlying48 rfl (by kernel_rfl)) rfl ?_
    rw [HPO.out]
    exact ⟨Rl.none, false, cp, rfl, ⟨fun h => absurd h hc0, fun _ _ h => absurd (HCO'.out.2 h) hc0⟩, RlO.nil _ _ _, HX4.out.setRow (by rw [HBB.out]; omega)⟩
  replace hc0 : cp = 0 := by omega
  subst hc0
  have HOP := Lib.hid (HCO'.out.1 rfl)
  clear HCO' HCP' HCK
  go_upto_region 8 with (first
    | ((with_reducible refine atSlot 27 ?_); refine wpList_of_wp rfl (wp_load_mid (op := ⟨some 27, _, _, _, _, _⟩) 39 _ rfl b 1 rfl [.slice la ln lc, .bool lP.rest] _ hr27 Tryz.underlying39 rfl (by kernel_rfl) ?_); clear hr27)
    | ((with_reducible refine atSlot 28 ?_); refine wpList_of_wp rfl (wp_load_mid (op := ⟨some 28, _, _, _, _, _⟩) 39 _ rfl (b + 1) 0 rfl [.slice pa pn pc, .bool pP.rest] _ hr28 Tryz.underlying39 rfl (by kernel_rfl) ?_); clear hr28)
    | (go_at_call 43; (with_reducible refine (HME'.out _ HX4.out).mono ?_); rintro en w5 ⟨⟨ma, mn, mc, mP⟩, rfl, h2, h3, hx5⟩; have HM2 := Lib.hid h2; have HMP := Lib.hid h3; have HX5 := Lib.hid (HX4.out.trans' hx5); have HS5 := Lib.hid hx5.size; have HE1 := Lib.hid (hx5.heap' HD1.out); have HE3 := Lib.hid (hx5.heap' HD3.out); have hn5 := heap_alloc_new w5 (.cells #[.slice none 0 0, .bool false] 39); have HP5 := Lib.hid (put_new w5 #[.slice none 0 0, .bool false] #[.slice ma mn mc, .bool mP.rest] 39); clear h2 h3 hx5)
    | ((with_reducible refine atStore 9 ?_); refine wpList_of_wp rfl (wp_store_row (o := ⟨none, _, _, _, _, _⟩) _ _ _ rfl w5.heap.size #[.slice ma mn mc, .bool mP.rest] rfl rfl _ _ hn5 (by kernel_rfl) rfl (by simp [Value.oneCell']) ?_); clear hn5)
    | fail)
  clear HD1 HD2 HD3
  have HSB := Lib.hid (show w.heap.size ≤ w4.heap.size from HX4.out.size)
  have HSC := Lib.hid (show b + 2 < w5.heap.size from (Array.getElem?_eq_some_iff.1 HE3.out).1)
  generalize (w5.alloc (.cells #[.slice none 0 0, .bool false] 39)).setRow w5.heap.size #[.slice ma mn mc, .bool mP.rest] = w6 at HP5 ⊢
  obtain ⟨hx6, hb6⟩ := HP5.out
  have HX6 := Lib.hid (HX5.out.trans' hx6)
  have HF1 := Lib.hid (hx6.heap' HE1.out)
  have HF3 := Lib.hid (hx6.heap' HE3.out)
  have HF6 := Lib.hid hb6
  have HMQ := Lib.hid (HMP.out.ext hx6)
  obtain ⟨g5, hg5⟩ : ∃ g, g = w5.heap.size := ⟨_, rfl⟩
  rw [← hg5] at HF6 HSC ⊢
  clear hx6 hb6 HP5 HE1 HE3 HMP hg5
  cases M with
  | none =>
    go_wp2_with (first
      | ((with_reducible refine atStore 4 ?_); refine wpList_of_wp rfl (wp_store_row (o := ⟨none, _, _, _, _, _⟩) _ _ _ rfl (b + 2) #[.bool false, .slice none 0 0, .bool false, .slice none 0 0, .bool false] rfl rfl _ _ HF3.out (by kernel_rfl) rfl (by simp [Value.oneCell']) ?_))
      | fail)
    refine bodyPost_ret (results_c2 (ty := 48) rfl _ (b + 2) [.bool false, .slice none 0 0, .bool false, .slice none 0 0, .bool false] _ rfl (box5 (setRow_heap _ _ _ _ _ _ HF3.out)).2.2.2 Tryz.underlying48 rfl (by kernel_rfl)) rfl ?_
    rw [HPO.out]
    exact ⟨Rl.none, false, 0, rfl, ⟨fun _ => ⟨HR.out, HOP.out, none, HM.out.symm, rfl, fun _ _ h => by cases h⟩, fun h => absurd rfl h⟩, RlO.nil _ _ _, HX6.out.setRow (by rw [HBB.out]; omega)⟩
  | some m =>
    obtain rfl : mP = m := HM2.out m rfl
    have hr37 := (box5 HF1.out).2.1
    have hr38 := (box2 HF6.out).2.2
    have hr40 := (box5 HF1.out).2.2.1
    go_upto_region 11 with (first
      | ((with_reducible refine atSlot 37 ?_); refine wpList_of_wp rfl (wp_load_mid (op := ⟨some 37, _, _, _, _, _⟩) 39 _ rfl b 1 rfl [.slice la ln lc, .bool lP.rest] _ hr37 Tryz.underlying39 rfl (by kernel_rfl) ?_); clear hr37)
      | ((with_reducible refine atSlot 38 ?_); refine wpList_of_wp rfl (wp_load_mid (op := ⟨some 38, _, _, _, _, _⟩) 39 _ rfl g5 0 rfl [.slice ma mn mc, .bool mP.rest] _ hr38 Tryz.underlying39 rfl (by kernel_rfl) ?_); clear hr38)
      | ((with_reducible refine atSlot 40 ?_); refine wpList_of_wp rfl (wp_load_mid (op := ⟨some 40, _, _, _, _, _⟩) 39 _ rfl b 3 rfl [.slice ra rn rc, .bool rP.rest] _ hr40 Tryz.underlying39 rfl (by kernel_rfl) ?_); clear hr40)
      | (go_at_call 59; (with_reducible refine (HCA'.out ⟨ma, mn, mc, mP⟩ _ HX6.out HMQ.out.i rfl HR.out).mono ?_); rintro en w7 ⟨⟨ca, cn, cc, cP⟩, e, rfl, h2, h3, h4, hx7⟩; have HC2 := Lib.hid h2; have HC3 := Lib.hid h3; have HCP := Lib.hid h4; have HX7 := Lib.hid (HX6.out.trans' hx7); have HMR := Lib.hid (HMQ.out.ext hx7); have HG3 := Lib.hid (hx7.heap' HF3.out); have HG6 := Lib.hid (hx7.heap' HF6.out); have hn7 := heap_alloc_new w7 (.cells #[.slice none 0 0, .bool false] 39); have HP7 := Lib.hid (put_new w7 #[.slice none 0 0, .bool false] #[.slice ca cn cc, .bool cP.rest] 39); clear h2 h3 h4 hx7)
      | ((with_reducible refine atStore 11 ?_); refine wpList_of_wp rfl (wp_store_row (o := ⟨none, _, _, _, _, _⟩) _ _ _ rfl w7.heap.size #[.slice ca cn cc, .bool cP.rest] rfl rfl _ _ hn7 (by kernel_rfl) rfl (by simp [Value.oneCell']) ?_); clear hn7)
      | fail)
    clear HF1 HMQ
    have HS6 := Lib.hid (show w.heap.size ≤ w6.heap.size from HX6.out.size)
    generalize (w7.alloc (.cells #[.slice none 0 0, .bool false] 39)).setRow w7.heap.size #[.slice ca cn cc, .bool cP.rest] = w8 at HP7 ⊢
    obtain ⟨hx8, hb8⟩ := HP7.out
    have HX8 := Lib.hid (HX7.out.trans' hx8)
    have HH3 := Lib.hid (hx8.heap' HG3.out)
    have HMS := Lib.hid (HMR.out.ext hx8)
    have HCS := Lib.hid (HCP.out.ext hx8)
    have hr48 := (box2 (hx8.heap' HG6.out)).2.2
    have hr49 := (box2 hb8).2.2
    generalize w7.heap.size = g7 at hr49 ⊢
    clear hx8 hb8 HP7 HG3 HG6 HCP HMR HF3 HF6
    by_cases he0 : e = 0
    · subst he0
      obtain rfl := HC3.out rfl
      have HCL := Lib.hid (HC2.out.1 rfl)
      go_wp2_with (first
        | ((with_reducible refine atSlot 48 ?_); refine wpList_of_wp rfl (wp_load_mid (op := ⟨some 48, _, _, _, _, _⟩) 39 _ rfl g5 0 rfl [.slice ma mn mc, .bool mP.rest] _ hr48 Tryz.underlying39 rfl (by kernel_rfl) ?_); clear hr48)
        | ((with_reducible refine atSlot 49 ?_); refine wpList_of_wp rfl (wp_load_mid (op := ⟨some 49, _, _, _, _, _⟩) 39 _ rfl g7 0 rfl [.slice ca cn cc, .bool (carry lP mP rP).rest] _ hr49 Tryz.underlying39 rfl (by kernel_rfl) ?_); clear hr49)
        | ((with_reducible refine atStore 4 ?_); refine wpList_of_wp rfl (wp_store_row (o := ⟨none, _, _, _, _, _⟩) _ _ _ rfl (b + 2) #[.bool false, .slice ma mn mc, .bool mP.rest, .slice ca cn cc, .bool (carry lP mP rP).rest] rfl rfl _ _ HH3.out (by kernel_rfl) rfl (by simp [Value.oneCell']) ?_))
        | fail)
      refine bodyPost_ret (results_c2 (ty := 48) rfl _ (b + 2) [.bool false, .slice ma mn mc, .bool mP.rest, .slice ca cn cc, .bool (carry lP mP rP).rest] _ rfl (box5 (setRow_heap _ _ _ _ _ _ HH3.out)).2.2.2 Tryz.underlying48 rfl (by kernel_rfl)) rfl ?_
      rw [HPO.out]
      have hm := meetP_some HM.out.symm
      have hno : NarL lP rP pP (some (mP, carry lP mP rP)) := ⟨HM.out.symm, rfl, carry_ok hm.1 HR.out.right hm.2.1 HR.out.rest HCL.out⟩
      exact ⟨⟨false, ⟨ma, mn, mc, mP⟩, ⟨ca, cn, cc, carry lP mP rP⟩⟩, true, 0, rfl, ⟨fun _ => ⟨HR.out, HOP.out, _, hno, rfl, fun _ _ h => by cases h; exact ⟨rfl, rfl⟩⟩, fun h => absurd rfl h⟩,
        ⟨⟨own_other (own_base HMS.out.own HSB.out) (grown_setRow _ _ _) (fun e => own_apart HMS.out.own HH3.out (by decide) e.symm), (HMS.out.small).mono (by omega)⟩,
         ⟨own_other (own_base HCS.out.own HS6.out) (grown_setRow _ _ _) (fun e => own_apart HCS.out.own HH3.out (by decide) e.symm), HCS.out.small⟩⟩, HX8.out.setRow (by rw [HBB.out]; omega)⟩
    · obtain ⟨q1, q2⟩ := neI (x := (e : Int)) (y := 0) (by omega)
      go_wp2_with (first
        | ((with_reducible refine atStore 4 ?_); refine wpList_of_wp rfl (wp_store_row (o := ⟨none, _, _, _, _, _⟩) _ _ _ rfl (b + 2) #[.bool false, .slice none 0 0, .bool false, .slice none 0 0, .bool false] rfl rfl _ _ HH3.out (by kernel_rfl) rfl (by simp [Value.oneCell']) ?_))
        | fail)
      refine bodyPost_ret (results_c2 (ty := 48) rfl _ (b + 2) [.bool false, .slice none 0 0, .bool false, .slice none 0 0, .bool false] _ rfl (box5 (setRow_heap _ _ _ _ _ _ HH3.out)).2.2.2 Tryz.underlying48 rfl (by kernel_rfl)) rfl ?_
      rw [HPO.out]
      exact ⟨Rl.none, false, e, rfl, ⟨fun h => absurd h he0, fun _ _ _ => ⟨mP, HM.out.symm, by have := HC2.out; omega⟩⟩, RlO.nil _ _ _, HX8.out.setRow (by rw [HBB.out]; omega)⟩
end Go.Proofs.YtejljmikammcdaaGreatDoor
/-
  Layer rule: NarrowRight, Chain.
-/
namespace Go.Proofs.YtejljmikammcdaaGreatDoor
open Go.RowKit

/-- rule.NarrowRight: what it answers. -/
def NrO (l r p : Pat) (S : Nat) (w : World) (en : Ending) (w' : World) : Prop :=
  ∃ (g : Rl) (q : Bool) (e : Nat), en = .returned (.tuple #[g.v, .bool q, .int .i64 (e : Nat)]) ∧
    (e = 0 → OkR l r ∧ OkP p ∧ ∃ o, NarL r l p o ∧ q = o.isSome ∧ ∀ m c, o = some (m, c) → g.r.P = m ∧ g.l.P = c) ∧ RlO w' w.heap.size (S + S) g ∧ Ext w w'
set_option maxRecDepth 100000 in
set_option maxHeartbeats 4000000 in
theorem NarrowRight_any (k : Rl) (p : Pt) (S : Nat) (w : World) (hk : RlI w S k) (hp : PtI w S p) (hS : S ≤ 1073741824) :
    Calls Tryz.prog 17 #[k.v, p.v] w (NrO k.l.P k.r.P p.P S w) := by
  have HCK := Lib.hid fun w' (h : Ext w w') => RCheck_any k S w' (hk.ext h) (by omega)
  have HNL := Lib.hid fun w' (h : Ext w w') => NarrowLeft_any ⟨false, k.r, k.l⟩ p S w' ⟨hk.r.ext h, hk.l.ext h⟩ (hp.ext h) hS
  clear hk hp
  obtain ⟨x, ⟨la, ln, lc, lP⟩, ⟨ra, rn, rc, rP⟩⟩ := k
  obtain ⟨pa, pn, pc, pP⟩ := p
  obtain ⟨post, hpo⟩ : ∃ q : Ending → World → Prop, q = NrO lP rP pP S w := ⟨_, rfl⟩
  rw [← hpo]
  have HPO := Lib.hid hpo
  have HX := Lib.hid (three_boxes w #[.bool x, .slice la ln lc, .bool lP.rest, .slice ra rn rc, .bool rP.rest] #[.slice pa pn pc, .bool pP.rest] #[.bool false, .slice none 0 0, .bool false, .slice none 0 0, .bool false] 48 39 48)
  clear hpo
  go_enter Tryz.func17, Tryz.ntmps17
  go_upto_region 1 with fail
  generalize ((w.alloc (.cells #[.bool x, .slice la ln lc, .bool lP.rest, .slice ra rn rc, .bool rP.rest] 48)).alloc (.cells #[.slice pa pn pc, .bool pP.rest] 39)).alloc (.cells #[.bool false, .slice none 0 0, .bool false, .slice none 0 0, .bool false] 48) = w2 at HX ⊢
  obtain ⟨hx2, hh1, hh2, hh3⟩ := HX.out
  have HX2 := Lib.hid hx2
  have HB1 := Lib.hid hh1
  have HB2 := Lib.hid hh2
  have HB3 := Lib.hid hh3
  have hr11 := (box5 hh1).2.2.2
  obtain ⟨b, hb⟩ : ∃ b, b = w.heap.size := ⟨_, rfl⟩
  rw [← hb] at HB1 HB2 HB3 hr11 ⊢
  have HBB := Lib.hid hb
  clear hx2 hh1 hh2 hh3 HX hb
  go_upto_region 2 with (first
    | ((with_reducible refine atSlot 11 ?_); refine wpList_of_wp rfl (wp_load_mid (op := ⟨some 11, _, _, _, _, _⟩) 48 _ rfl b 0 rfl [.bool x, .slice la ln lc, .bool lP.rest, .slice ra rn rc, .bool rP.rest] _ hr11 Tryz.underlying48 rfl (by kernel_rfl) ?_); clear hr11)
    | (go_at_call 41; (with_reducible refine (HCK.out _ HX2.out).mono ?_); rintro en w3 ⟨e, rfl, h2, hx3⟩; have H2 := Lib.hid h2; have HX3 := Lib.hid (HX2.out.trans' hx3); have HC1 := Lib.hid (hx3.heap' HB1.out); have HC2 := Lib.hid (hx3.heap' HB2.out); have HC3 := Lib.hid (hx3.heap' HB3.out); clear h2 hx3)
    | fail)
  clear HB1 HB2 HB3
  by_cases he0 : e ≠ 0
  · obtain ⟨q1, q2⟩ := neI (x := (e : Int)) (y := 0) (by omega)
    go_wp2_with (first
      | ((with_reducible refine atStore 4 ?_); refine wpList_of_wp rfl (wp_store_row (o := ⟨none, _, _, _, _, _⟩) _ _ _ rfl (b + 2) #[.bool false, .slice none 0 0, .bool false, .slice none 0 0, .bool false] rfl rfl _ _ HC3.out (by kernel_rfl) rfl (by simp [Value.oneCell']) ?_))
      | fail)
    refine bodyPost_ret (results_c2 (ty := 48) rfl _ (b + 2) [.bool false, .slice none 0 0, .bool false, .slice none 0 0, .bool false] _ rfl (box5 (setRow_heap _ _ _ _ _ _ HC3.out)).2.2.2 Tryz.underlying48 rfl (by kernel_rfl)) rfl ?_
    rw [HPO.out]
    exact ⟨Rl.none, false, e, rfl, fun h => absurd h he0, RlO.nil _ _ _, HX3.out.setRow (by rw [HBB.out]; omega)⟩
  replace he0 : e = 0 := by omega
  subst he0
  have HR := Lib.hid (H2.out.1 rfl)
  clear H2
  have hr19 := (box5 HC1.out).2.2.1
  have hr21 := (box5 HC1.out).2.1
  have hr23 := (box2 HC2.out).2.2
  go_upto_region 5 with (first
    | ((with_reducible refine atSlot 19 ?_); refine wpList_of_wp rfl (wp_load_mid (op := ⟨some 19, _, _, _, _, _⟩) 39 _ rfl b 3 rfl [.slice ra rn rc, .bool rP.rest] _ hr19 Tryz.underlying39 rfl (by kernel_rfl) ?_); clear hr19)
    | ((with_reducible refine atSlot 21 ?_); refine wpList_of_wp rfl (wp_load_mid (op := ⟨some 21, _, _, _, _, _⟩) 39 _ rfl b 1 rfl [.slice la ln lc, .bool lP.rest] _ hr21 Tryz.underlying39 rfl (by kernel_rfl) ?_); clear hr21)
    | ((with_reducible refine atSlot 23 ?_); refine wpList_of_wp rfl (wp_load_mid (op := ⟨some 23, _, _, _, _, _⟩) 39 _ rfl (b + 1) 0 rfl [.slice pa pn pc, .bool pP.rest] _ hr23 Tryz.underlying39 rfl (by kernel_rfl) ?_); clear hr23)
    | (go_at_call 42; (with_reducible refine (HNL.out _ HX3.out).mono ?_); rintro en w4 ⟨⟨gx, ⟨ma, mn, mc, mP⟩, ⟨ca, cn, cc, cP⟩⟩, q, e, rfl, h2, h3, hx4⟩; have H2 := Lib.hid h2; have HG := Lib.hid h3; have HX4 := Lib.hid (HX3.out.trans' hx4); have HD3 := Lib.hid (hx4.heap' HC3.out); have hn4 := heap_alloc_new w4 (.cells #[.bool false, .slice none 0 0, .bool false, .slice none 0 0, .bool false] 48); have HP4 := Lib.hid (put_new w4 #[.bool false, .slice none 0 0, .bool false, .slice none 0 0, .bool false] #[.bool gx, .slice ma mn mc, .bool mP.rest, .slice ca cn cc, .bool cP.rest] 48); clear h2 h3 hx4)
    | ((with_reducible refine atStore 8 ?_); refine wpList_of_wp rfl (wp_store_row (o := ⟨none, _, _, _, _, _⟩) _ _ _ rfl w4.heap.size #[.bool gx, .slice ma mn mc, .bool mP.rest, .slice ca cn cc, .bool cP.rest] rfl rfl _ _ hn4 (by kernel_rfl) rfl (by simp [Value.oneCell']) ?_); clear hn4)
    | fail)
  clear HC1 HC2 HC3
  have HSB := Lib.hid (show w.heap.size ≤ w3.heap.size from HX3.out.size)
  generalize (w4.alloc (.cells #[.bool false, .slice none 0 0, .bool false, .slice none 0 0, .bool false] 48)).setRow w4.heap.size #[.bool gx, .slice ma mn mc, .bool mP.rest, .slice ca cn cc, .bool cP.rest] = w5 at HP4 ⊢
  obtain ⟨hx5, hb5⟩ := HP4.out
  have HX5 := Lib.hid (HX4.out.trans' hx5)
  have HE3 := Lib.hid (hx5.heap' HD3.out)
  have HM := Lib.hid (HG.out.l.ext hx5)
  have HC := Lib.hid (HG.out.r.ext hx5)
  have hr29 := (box5 hb5).2.2.1
  have hr31 := (box5 hb5).2.1
  generalize w4.heap.size = g4 at hr29 hr31 ⊢
  clear hx5 hb5 HP4 HD3 HG
  go_wp2_with (first
    | ((with_reducible refine atSlot 29 ?_); refine wpList_of_wp rfl (wp_load_mid (op := ⟨some 29, _, _, _, _, _⟩) 39 _ rfl g4 3 rfl [.slice ca cn cc, .bool cP.rest] _ hr29 Tryz.underlying39 rfl (by kernel_rfl) ?_); clear hr29)
    | ((with_reducible refine atSlot 31 ?_); refine wpList_of_wp rfl (wp_load_mid (op := ⟨some 31, _, _, _, _, _⟩) 39 _ rfl g4 1 rfl [.slice ma mn mc, .bool mP.rest] _ hr31 Tryz.underlying39 rfl (by kernel_rfl) ?_); clear hr31)
    | ((with_reducible refine atStore 4 ?_); refine wpList_of_wp rfl (wp_store_row (o := ⟨none, _, _, _, _, _⟩) _ _ _ rfl (b + 2) #[.bool false, .slice ca cn cc, .bool cP.rest, .slice ma mn mc, .bool mP.rest] rfl rfl _ _ HE3.out (by kernel_rfl) rfl (by simp [Value.oneCell']) ?_))
    | fail)
  refine bodyPost_ret (results_c2 (ty := 48) rfl _ (b + 2) [.bool false, .slice ca cn cc, .bool cP.rest, .slice ma mn mc, .bool mP.rest] _ rfl (box5 (setRow_heap _ _ _ _ _ _ HE3.out)).2.2.2 Tryz.underlying48 rfl (by kernel_rfl)) rfl ?_
  rw [HPO.out]
  exact ⟨⟨false, ⟨ca, cn, cc, cP⟩, ⟨ma, mn, mc, mP⟩⟩, q, e, rfl, fun h => by
      obtain ⟨-, g2, o, g3, g4, g5⟩ := H2.out.1 h
      exact ⟨HR.out, g2, o, g3, g4, g5⟩,
    ⟨⟨own_other (own_base HC.out.own HSB.out) (grown_setRow _ _ _) (fun e => own_apart HC.out.own HE3.out (by decide) e.symm), HC.out.small⟩,
     ⟨own_other (own_base HM.out.own HSB.out) (grown_setRow _ _ _) (fun e => own_apart HM.out.own HE3.out (by decide) e.symm), HM.out.small⟩⟩, HX5.out.setRow (by rw [HBB.out]; omega)⟩

/-- rule.Chain: what it answers. -/
def ChO (al ar bl br : Pat) (S : Nat) (w : World) (en : Ending) (w' : World) : Prop :=
  ∃ (g : Rl) (q : Bool) (e : Nat), en = .returned (.tuple #[g.v, .bool q, .int .i64 (e : Nat)]) ∧
    (e = 0 → OkR al ar ∧ OkR bl br ∧ ∃ o, ChnR al ar bl br o ∧ q = o.isSome ∧ ∀ m c, o = some (m, c) → g.l.P = m ∧ g.r.P = c) ∧ RlO w' w.heap.size (S + S) g ∧ Ext w w'
set_option maxRecDepth 100000 in
set_option maxHeartbeats 4000000 in
theorem Chain_any (k y : Rl) (S : Nat) (w : World) (hk : RlI w S k) (hy : RlI w S y) (hS : S ≤ 1073741824) :
    Calls Tryz.prog 26 #[k.v, y.v] w (ChO k.l.P k.r.P y.l.P y.r.P S w) := by
  have HCK := Lib.hid fun w' (h : Ext w w') => RcheckBoth_any k y S w' (hk.ext h) (hy.ext h) (by omega)
  have HME := Lib.hid fun w' (h : Ext w w') => Meet_any k.r y.l S w' (hk.r.ext h) (hy.l.ext h) hS
  have HCA := Lib.hid fun (m : Pt) w' (h : Ext w w') (h1 : PtI w' S m) (h2 : meetP k.r.P y.l.P = some m.P) (h3 : OkR k.l.P k.r.P) =>
    carry_any k.r m k.l S w' (hk.r.ext h) h1 (hk.l.ext h) hS h3.right (meetP_some h2).1 h3.left (meetP_some h2).2.1 h3.st.symm h3.rest.symm
  have HCB := Lib.hid fun (m : Pt) w' (h : Ext w w') (h1 : PtI w' S m) (h2 : meetP k.r.P y.l.P = some m.P) (h3 : OkR y.l.P y.r.P) =>
    carry_any y.l m y.r S w' (hy.l.ext h) h1 (hy.r.ext h) hS h3.left (meetP_some h2).1 h3.right (meetP_some h2).2.2.1 h3.st h3.rest
  clear hk hy
  obtain ⟨x, ⟨la, ln, lc, lP⟩, ⟨ra, rn, rc, rP⟩⟩ := k
  obtain ⟨x', ⟨la', ln', lc', lP'⟩, ⟨ra', rn', rc', rP'⟩⟩ := y
  obtain ⟨M, hM⟩ : ∃ M, M = meetP rP lP' := ⟨_, rfl⟩
  have HM := Lib.hid hM
  have HME' := Lib.hid (show ∀ w', Ext w w' → Calls Tryz.prog 43 #[.agg #[.slice ra rn rc, .bool rP.rest], .agg #[.slice la' ln' lc', .bool lP'.rest]] w' (fun en w'' => ∃ r : Pt, en = .returned (.tuple #[r.v, .bool M.isSome]) ∧ (∀ m, M = some m → r.P = m) ∧ PtO w'' w'.heap.size S r ∧ Ext w' w'') from by rw [hM]; exact HME.out)
  have HCA' := Lib.hid (show ∀ (m : Pt) w', Ext w w' → PtI w' S m → M = some m.P → OkR lP rP → Calls Tryz.prog 59 #[.agg #[.slice ra rn rc, .bool rP.rest], m.v, .agg #[.slice la ln lc, .bool lP.rest]] w' (CarO rP m.P lP S w') from by rw [hM]; exact HCA.out)
  have HCB' := Lib.hid (show ∀ (m : Pt) w', Ext w w' → PtI w' S m → M = some m.P → OkR lP' rP' → Calls Tryz.prog 59 #[.agg #[.slice la' ln' lc', .bool lP'.rest], m.v, .agg #[.slice ra' rn' rc', .bool rP'.rest]] w' (CarO lP' m.P rP' S w') from by rw [hM]; exact HCB.out)
  obtain ⟨post, hpo⟩ : ∃ q : Ending → World → Prop, q = ChO lP rP lP' rP' S w := ⟨_, rfl⟩
  rw [← hpo]
  have HPO := Lib.hid hpo
  have HX := Lib.hid (three_boxes w #[.bool x, .slice la ln lc, .bool lP.rest, .slice ra rn rc, .bool rP.rest] #[.bool x', .slice la' ln' lc', .bool lP'.rest, .slice ra' rn' rc', .bool rP'.rest] #[.bool false, .slice none 0 0, .bool false, .slice none 0 0, .bool false] 48 48 48)
  clear hpo hM HME HCA HCB
  go_enter Tryz.func26, Tryz.ntmps26
  go_upto_region 1 with fail
  generalize ((w.alloc (.cells #[.bool x, .slice la ln lc, .bool lP.rest, .slice ra rn rc, .bool rP.rest] 48)).alloc (.cells #[.bool x', .slice la' ln' lc', .bool lP'.rest, .slice ra' rn' rc', .bool rP'.rest] 48)).alloc (.cells #[.bool false, .slice none 0 0, .bool false, .slice none 0 0, .bool false] 48) = w2 at HX ⊢
  obtain ⟨hx2, hh1, hh2, hh3⟩ := HX.out
  have HX2 := Lib.hid hx2
  have HB1 := Lib.hid hh1
  have HB2 := Lib.hid hh2
  have HB3 := Lib.hid hh3
  have hr13 := (box5 hh1).2.2.2
  have hr14 := (box5 hh2).2.2.2
  obtain ⟨b, hb⟩ : ∃ b, b = w.heap.size := ⟨_, rfl⟩
  rw [← hb] at HB1 HB2 HB3 hr13 hr14 ⊢
  have HBB := Lib.hid hb
  clear hx2 hh1 hh2 hh3 HX hb
  go_upto_region 2 with (first
    | ((with_reducible refine atSlot 13 ?_); refine wpList_of_wp rfl (wp_load_mid (op := ⟨some 13, _, _, _, _, _⟩) 48 _ rfl b 0 rfl [.bool x, .slice la ln lc, .bool lP.rest, .slice ra rn rc, .bool rP.rest] _ hr13 Tryz.underlying48 rfl (by kernel_rfl) ?_); clear hr13)
    | ((with_reducible refine atSlot 14 ?_); refine wpList_of_wp rfl (wp_load_mid (op := ⟨some 14, _, _, _, _, _⟩) 48 _ rfl (b + 1) 0 rfl [.bool x', .slice la' ln' lc', .bool lP'.rest, .slice ra' rn' rc', .bool rP'.rest] _ hr14 Tryz.underlying48 rfl (by kernel_rfl) ?_); clear hr14)
    | (go_at_call 58; (with_reducible refine (HCK.out _ HX2.out).mono ?_); rintro en w3 ⟨e, rfl, h2, hx3⟩; have H2 := Lib.hid h2; have HX3 := Lib.hid (HX2.out.trans' hx3); have HC1 := Lib.hid (hx3.heap' HB1.out); have HC2 := Lib.hid (hx3.heap' HB2.out); have HC3 := Lib.hid (hx3.heap' HB3.out); clear h2 hx3)
    | fail)
  clear HB1 HB2 HB3
  by_cases he0 : e ≠ 0
  · obtain ⟨q1, q2⟩ := neI (x := (e : Int)) (y := 0) (by omega)
    go_wp2_with (first
      | ((with_reducible refine atStore 4 ?_); refine wpList_of_wp rfl (wp_store_row (o := ⟨none, _, _, _, _, _⟩) _ _ _ rfl (b + 2) #[.bool false, .slice none 0 0, .bool false, .slice none 0 0, .bool false] rfl rfl _ _ HC3.out (by kernel_rfl) rfl (by simp [Value.oneCell']) ?_))
      | fail)
    refine bodyPost_ret (results_c2 (ty := 48) rfl _ (b + 2) [.bool false, .slice none 0 0, .bool false, .slice none 0 0, .bool false] _ rfl (box5 (setRow_heap _ _ _ _ _ _ HC3.out)).2.2.2 Tryz.underlying48 rfl (by kernel_rfl)) rfl ?_
    rw [HPO.out]
    exact ⟨Rl.none, false, e, rfl, fun h => absurd h he0, RlO.nil _ _ _, HX3.out.setRow (by rw [HBB.out]; omega)⟩
  replace he0 : e = 0 := by omega
  subst he0
  obtain ⟨hra, hrb⟩ := H2.out.1 rfl
  have HRA := Lib.hid hra
  have HRB := Lib.hid hrb
  clear H2 hra hrb
  have hr22 := (box5 HC1.out).2.2.1
  have hr24 := (box5 HC2.out).2.1
  go_upto_region 5 with (first
    | ((with_reducible refine atSlot 22 ?_); refine wpList_of_wp rfl (wp_load_mid (op := ⟨some 22, _, _, _, _, _⟩) 39 _ rfl b 3 rfl [.slice ra rn rc, .bool rP.rest] _ hr22 Tryz.underlying39 rfl (by kernel_rfl) ?_); clear hr22)
    | ((with_reducible refine atSlot 24 ?_); refine wpList_of_wp rfl (wp_load_mid (op := ⟨some 24, _, _, _, _, _⟩) 39 _ rfl (b + 1) 1 rfl [.slice la' ln' lc', .bool lP'.rest] _ hr24 Tryz.underlying39 rfl (by kernel_rfl) ?_); clear hr24)
    | (go_at_call 43; (with_reducible refine (HME'.out _ HX3.out).mono ?_); rintro en w5 ⟨⟨ma, mn, mc, mP⟩, rfl, h2, h3, hx5⟩; have HM2 := Lib.hid h2; have HMP := Lib.hid h3; have HX5 := Lib.hid (HX3.out.trans' hx5); have HE1 := Lib.hid (hx5.heap' HC1.out); have HE2 := Lib.hid (hx5.heap' HC2.out); have HE3 := Lib.hid (hx5.heap' HC3.out); have hn5 := heap_alloc_new w5 (.cells #[.slice none 0 0, .bool false] 39); have HP5 := Lib.hid (put_new w5 #[.slice none 0 0, .bool false] #[.slice ma mn mc, .bool mP.rest] 39); clear h2 h3 hx5)
    | ((with_reducible refine atStore 8 ?_); refine wpList_of_wp rfl (wp_store_row (o := ⟨none, _, _, _, _, _⟩) _ _ _ rfl w5.heap.size #[.slice ma mn mc, .bool mP.rest] rfl rfl _ _ hn5 (by kernel_rfl) rfl (by simp [Value.oneCell']) ?_); clear hn5)
    | fail)
  clear HC1 HC2 HC3
  generalize (w5.alloc (.cells #[.slice none 0 0, .bool false] 39)).setRow w5.heap.size #[.slice ma mn mc, .bool mP.rest] = w6 at HP5 ⊢
  obtain ⟨hx6, hb6⟩ := HP5.out
  have HX6 := Lib.hid (HX5.out.trans' hx6)
  have HF1 := Lib.hid (hx6.heap' HE1.out)
  have HF2 := Lib.hid (hx6.heap' HE2.out)
  have HF3 := Lib.hid (hx6.heap' HE3.out)
  have HF6 := Lib.hid hb6
  have HMQ := Lib.hid (HMP.out.ext hx6)
  obtain ⟨g5, hg5⟩ : ∃ g, g = w5.heap.size := ⟨_, rfl⟩
  rw [← hg5] at HF6 ⊢
  clear hx6 hb6 HP5 HE1 HE2 HE3 HMP hg5
  cases M with
  | none =>
    go_wp2_with (first
      | ((with_reducible refine atStore 4 ?_); refine wpList_of_wp rfl (wp_store_row (o := ⟨none, _, _, _, _, _⟩) _ _ _ rfl (b + 2) #[.bool false, .slice none 0 0, .bool false, .slice none 0 0, .bool false] rfl rfl _ _ HF3.out (by kernel_rfl) rfl (by simp [Value.oneCell']) ?_))
      | fail)
    refine bodyPost_ret (results_c2 (ty := 48) rfl _ (b + 2) [.bool false, .slice none 0 0, .bool false, .slice none 0 0, .bool false] _ rfl (box5 (setRow_heap _ _ _ _ _ _ HF3.out)).2.2.2 Tryz.underlying48 rfl (by kernel_rfl)) rfl ?_
    rw [HPO.out]
    exact ⟨Rl.none, false, 0, rfl, fun _ => ⟨HRA.out, HRB.out, none, HM.out.symm, rfl, fun _ _ h => by cases h⟩, RlO.nil _ _ _, HX6.out.setRow (by rw [HBB.out]; omega)⟩
  | some m =>
    obtain rfl : mP = m := HM2.out m rfl
    have hr33 := (box5 HF1.out).2.2.1
    have hr34 := (box2 HF6.out).2.2
    have hr36 := (box5 HF1.out).2.1
    go_upto_region 8 with (first
      | ((with_reducible refine atSlot 33 ?_); refine wpList_of_wp rfl (wp_load_mid (op := ⟨some 33, _, _, _, _, _⟩) 39 _ rfl b 3 rfl [.slice ra rn rc, .bool rP.rest] _ hr33 Tryz.underlying39 rfl (by kernel_rfl) ?_); clear hr33)
      | ((with_reducible refine atSlot 34 ?_); refine wpList_of_wp rfl (wp_load_mid (op := ⟨some 34, _, _, _, _, _⟩) 39 _ rfl g5 0 rfl [.slice ma mn mc, .bool mP.rest] _ hr34 Tryz.underlying39 rfl (by kernel_rfl) ?_); clear hr34)
      | ((with_reducible refine atSlot 36 ?_); refine wpList_of_wp rfl (wp_load_mid (op := ⟨some 36, _, _, _, _, _⟩) 39 _ rfl b 1 rfl [.slice la ln lc, .bool lP.rest] _ hr36 Tryz.underlying39 rfl (by kernel_rfl) ?_); clear hr36)
      | (go_at_call 59; (with_reducible refine (HCA'.out ⟨ma, mn, mc, mP⟩ _ HX6.out HMQ.out.i rfl HRA.out).mono ?_); rintro en w7 ⟨⟨ca, cn, cc, cP⟩, e, rfl, h2, h3, h4, hx7⟩; have HC2 := Lib.hid h2; have HC3 := Lib.hid h3; have HCP := Lib.hid h4; have HX7 := Lib.hid (HX6.out.trans' hx7); have HMR := Lib.hid (HMQ.out.ext hx7); have HG2 := Lib.hid (hx7.heap' HF2.out); have HG3 := Lib.hid (hx7.heap' HF3.out); have HG6 := Lib.hid (hx7.heap' HF6.out); have hn7 := heap_alloc_new w7 (.cells #[.slice none 0 0, .bool false] 39); have HP7 := Lib.hid (put_new w7 #[.slice none 0 0, .bool false] #[.slice ca cn cc, .bool cP.rest] 39); clear h2 h3 h4 hx7)
      | ((with_reducible refine atStore 10 ?_); refine wpList_of_wp rfl (wp_store_row (o := ⟨none, _, _, _, _, _⟩) _ _ _ rfl w7.heap.size #[.slice ca cn cc, .bool cP.rest] rfl rfl _ _ hn7 (by kernel_rfl) rfl (by simp [Value.oneCell']) ?_); clear hn7)
      | fail)
    clear HF1 HMQ HCA' HME'
    have HS6 := Lib.hid (show w.heap.size ≤ w6.heap.size from HX6.out.size)
    generalize (w7.alloc (.cells #[.slice none 0 0, .bool false] 39)).setRow w7.heap.size #[.slice ca cn cc, .bool cP.rest] = w8 at HP7 ⊢
    obtain ⟨hx8, hb8⟩ := HP7.out
    have HX8 := Lib.hid (HX7.out.trans' hx8)
    have HH2 := Lib.hid (hx8.heap' HG2.out)
    have HH3 := Lib.hid (hx8.heap' HG3.out)
    have HH6 := Lib.hid (hx8.heap' HG6.out)
    have HH7 := Lib.hid hb8
    have HMS := Lib.hid (HMR.out.ext hx8)
    have HCS := Lib.hid (HCP.out.ext hx8)
    generalize w7.heap.size = g7 at HH7 ⊢
    clear hx8 hb8 HP7 HG2 HG3 HG6 HCP HMR HF2 HF3 HF6
    by_cases he0 : e ≠ 0
    · obtain ⟨q1, q2⟩ := neI (x := (e : Int)) (y := 0) (by omega)
      go_wp2_with (first
        | ((with_reducible refine atStore 4 ?_); refine wpList_of_wp rfl (wp_store_row (o := ⟨none, _, _, _, _, _⟩) _ _ _ rfl (b + 2) #[.bool false, .slice none 0 0, .bool false, .slice none 0 0, .bool false] rfl rfl _ _ HH3.out (by kernel_rfl) rfl (by simp [Value.oneCell']) ?_))
        | fail)
      refine bodyPost_ret (results_c2 (ty := 48) rfl _ (b + 2) [.bool false, .slice none 0 0, .bool false, .slice none 0 0, .bool false] _ rfl (box5 (setRow_heap _ _ _ _ _ _ HH3.out)).2.2.2 Tryz.underlying48 rfl (by kernel_rfl)) rfl ?_
      rw [HPO.out]
      exact ⟨Rl.none, false, e, rfl, fun h => absurd h he0, RlO.nil _ _ _, HX8.out.setRow (by rw [HBB.out]; omega)⟩
    replace he0 : e = 0 := by omega
    subst he0
    obtain rfl := HC3.out rfl
    have HCL := Lib.hid (HC2.out.1 rfl)
    clear HC2 HC3
    have hr46 := (box5 HH2.out).2.1
    have hr47 := (box2 HH6.out).2.2
    have hr49 := (box5 HH2.out).2.2.1
    go_upto_region 11 with (first
      | ((with_reducible refine atSlot 46 ?_); refine wpList_of_wp rfl (wp_load_mid (op := ⟨some 46, _, _, _, _, _⟩) 39 _ rfl (b + 1) 1 rfl [.slice la' ln' lc', .bool lP'.rest] _ hr46 Tryz.underlying39 rfl (by kernel_rfl) ?_); clear hr46)
      | ((with_reducible refine atSlot 47 ?_); refine wpList_of_wp rfl (wp_load_mid (op := ⟨some 47, _, _, _, _, _⟩) 39 _ rfl g5 0 rfl [.slice ma mn mc, .bool mP.rest] _ hr47 Tryz.underlying39 rfl (by kernel_rfl) ?_); clear hr47)
      | ((with_reducible refine atSlot 49 ?_); refine wpList_of_wp rfl (wp_load_mid (op := ⟨some 49, _, _, _, _, _⟩) 39 _ rfl (b + 1) 3 rfl [.slice ra' rn' rc', .bool rP'.rest] _ hr49 Tryz.underlying39 rfl (by kernel_rfl) ?_); clear hr49)
      | (go_at_call 59; (with_reducible refine (HCB'.out ⟨ma, mn, mc, mP⟩ _ HX8.out HMS.out.i rfl HRB.out).mono ?_); rintro en w9 ⟨⟨da, dn, dc, dP⟩, e, rfl, h2, h3, h4, hx9⟩; have HC2 := Lib.hid h2; have HC3 := Lib.hid h3; have HDP := Lib.hid h4; have HX9 := Lib.hid (HX8.out.trans' hx9); have HCT := Lib.hid (HCS.out.ext hx9); have HG3 := Lib.hid (hx9.heap' HH3.out); have HG7 := Lib.hid (hx9.heap' HH7.out); have hn9 := heap_alloc_new w9 (.cells #[.slice none 0 0, .bool false] 39); have HP9 := Lib.hid (put_new w9 #[.slice none 0 0, .bool false] #[.slice da dn dc, .bool dP.rest] 39); clear h2 h3 h4 hx9)
      | ((with_reducible refine atStore 12 ?_); refine wpList_of_wp rfl (wp_store_row (o := ⟨none, _, _, _, _, _⟩) _ _ _ rfl w9.heap.size #[.slice da dn dc, .bool dP.rest] rfl rfl _ _ hn9 (by kernel_rfl) rfl (by simp [Value.oneCell']) ?_); clear hn9)
      | fail)
    clear HH2 HMS HCS
    have HS8 := Lib.hid (show w.heap.size ≤ w8.heap.size from HX8.out.size)
    generalize (w9.alloc (.cells #[.slice none 0 0, .bool false] 39)).setRow w9.heap.size #[.slice da dn dc, .bool dP.rest] = w10 at HP9 ⊢
    obtain ⟨hx10, hb10⟩ := HP9.out
    have HX10 := Lib.hid (HX9.out.trans' hx10)
    have HI3 := Lib.hid (hx10.heap' HG3.out)
    have HCV := Lib.hid (HCT.out.ext hx10)
    have HDV := Lib.hid (HDP.out.ext hx10)
    have hr57 := (box2 (hx10.heap' HG7.out)).2.2
    have hr58 := (box2 hb10).2.2
    generalize w9.heap.size = g9 at hr58 ⊢
    clear hx10 hb10 HP9 HG3 HG7 HDP HCT HH3 HH6 HH7
    by_cases he0 : e = 0
    · subst he0
      obtain rfl := HC3.out rfl
      have HDL := Lib.hid (HC2.out.1 rfl)
      go_wp2_with (first
        | ((with_reducible refine atSlot 57 ?_); refine wpList_of_wp rfl (wp_load_mid (op := ⟨some 57, _, _, _, _, _⟩) 39 _ rfl g7 0 rfl [.slice ca cn cc, .bool (carry rP mP lP).rest] _ hr57 Tryz.underlying39 rfl (by kernel_rfl) ?_); clear hr57)
        | ((with_reducible refine atSlot 58 ?_); refine wpList_of_wp rfl (wp_load_mid (op := ⟨some 58, _, _, _, _, _⟩) 39 _ rfl g9 0 rfl [.slice da dn dc, .bool (carry lP' mP rP').rest] _ hr58 Tryz.underlying39 rfl (by kernel_rfl) ?_); clear hr58)
        | ((with_reducible refine atStore 4 ?_); refine wpList_of_wp rfl (wp_store_row (o := ⟨none, _, _, _, _, _⟩) _ _ _ rfl (b + 2) #[.bool false, .slice ca cn cc, .bool (carry rP mP lP).rest, .slice da dn dc, .bool (carry lP' mP rP').rest] rfl rfl _ _ HI3.out (by kernel_rfl) rfl (by simp [Value.oneCell']) ?_))
        | fail)
      refine bodyPost_ret (results_c2 (ty := 48) rfl _ (b + 2) [.bool false, .slice ca cn cc, .bool (carry rP mP lP).rest, .slice da dn dc, .bool (carry lP' mP rP').rest] _ rfl (box5 (setRow_heap _ _ _ _ _ _ HI3.out)).2.2.2 Tryz.underlying48 rfl (by kernel_rfl)) rfl ?_
      rw [HPO.out]
      have hm := meetP_some HM.out.symm
      have hno : ChnR lP rP lP' rP' (some (carry rP mP lP, carry lP' mP rP')) := ⟨mP, HM.out.symm, rfl, rfl, carry_ok hm.1 HRA.out.left hm.2.1 HRA.out.rest.symm HCL.out, carry_ok hm.1 HRB.out.right hm.2.2.1 HRB.out.rest HDL.out⟩
      exact ⟨⟨false, ⟨ca, cn, cc, carry rP mP lP⟩, ⟨da, dn, dc, carry lP' mP rP'⟩⟩, true, 0, rfl, fun _ => ⟨HRA.out, HRB.out, _, hno, rfl, fun _ _ h => by cases h; exact ⟨rfl, rfl⟩⟩,
        ⟨⟨own_other (own_base HCV.out.own HS6.out) (grown_setRow _ _ _) (fun e => own_apart HCV.out.own HI3.out (by decide) e.symm), HCV.out.small⟩,
         ⟨own_other (own_base HDV.out.own HS8.out) (grown_setRow _ _ _) (fun e => own_apart HDV.out.own HI3.out (by decide) e.symm), HDV.out.small⟩⟩, HX10.out.setRow (by rw [HBB.out]; omega)⟩
    · obtain ⟨q1, q2⟩ := neI (x := (e : Int)) (y := 0) (by omega)
      go_wp2_with (first
        | ((with_reducible refine atStore 4 ?_); refine wpList_of_wp rfl (wp_store_row (o := ⟨none, _, _, _, _, _⟩) _ _ _ rfl (b + 2) #[.bool false, .slice none 0 0, .bool false, .slice none 0 0, .bool false] rfl rfl _ _ HI3.out (by kernel_rfl) rfl (by simp [Value.oneCell']) ?_))
        | fail)
      refine bodyPost_ret (results_c2 (ty := 48) rfl _ (b + 2) [.bool false, .slice none 0 0, .bool false, .slice none 0 0, .bool false] _ rfl (box5 (setRow_heap _ _ _ _ _ _ HI3.out)).2.2.2 Tryz.underlying48 rfl (by kernel_rfl)) rfl ?_
      rw [HPO.out]
      exact ⟨Rl.none, false, e, rfl, fun h => absurd h he0, RlO.nil _ _ _, HX10.out.setRow (by rw [HBB.out]; omega)⟩
end Go.Proofs.YtejljmikammcdaaGreatDoor
/-
  Layer rule: translate, Forward, Turn.
-/
namespace Go.Proofs.YtejljmikammcdaaGreatDoor
open Go.RowKit

theorem mpart_le {a c x : Str} (h : mpart a c = some x) : x.length ≤ c.length := by
  cases hs : star a with
  | true => rw [((mpart_starred hs).1 h).2, List.length_append]; omega
  | false => rw [((mpart_lit hs).1 h).2]; simp
theorem joinS_head_le (c : Str) (cs : List Str) : c.length ≤ (joinS (c :: cs)).length := by
  by_cases h : cs = []
  · subst h; exact Nat.le_refl _
  · rw [joinS_cons _ _ h, List.length_append]; omega
theorem joinS_tail_le (c : Str) (cs : List Str) : (joinS cs).length ≤ (joinS (c :: cs)).length := joinS_drop_le (c :: cs) 1
theorem joinS_cons_le (c : Str) (cs : List Str) : (joinS (c :: cs)).length ≤ c.length + 1 + (joinS cs).length := by
  by_cases h : cs = []
  · subst h; show c.length ≤ _; omega
  · rw [joinS_cons _ _ h, List.length_append, List.length_cons]; omega
theorem capt_joinS : ∀ (ps : List Str) (r : Bool) (xs : List Str) (l : List (List Str)), capt ps r xs = some l → ∀ cs ∈ l, (joinS cs).length ≤ (joinS xs).length
  | [], r, xs, l, h => by
    unfold capt at h
    intro cs hcs
    cases r with
    | true =>
      simp only [if_true] at h
      split at h
      · cases h
      · cases h
        obtain rfl : cs = xs := by simpa using hcs
        exact Nat.le_refl _
    | false =>
      simp only [Bool.false_eq_true, if_false] at h
      split at h
      · cases h; cases hcs
      · cases h
  | a :: ps, r, [], l, h => by cases h
  | a :: ps, r, x :: xs, l, h => by
    obtain ⟨z, l', hz, hl, rfl⟩ := capt_cons.1 h
    have ih := capt_joinS ps r xs l' hl
    intro cs hcs
    cases hs : star a with
    | true =>
      rw [hs, if_pos rfl] at hcs
      rcases List.mem_cons.1 hcs with rfl | hcs
      · exact Nat.le_trans (mpart_le hz) (joinS_head_le x xs)
      · exact Nat.le_trans (ih cs hcs) (joinS_tail_le x xs)
    | false =>
      rw [hs, if_neg (by decide)] at hcs
      exact Nat.le_trans (ih cs hcs) (joinS_tail_le x xs)
theorem fill_len (S T : Nat) : ∀ (ts : List Str) (r : Bool) (l : List (List Str)), Fit (stars ts) r l → (∀ cs ∈ l, (joinS cs).length ≤ T) → (∀ t ∈ ts, t.length ≤ S) →
    (joinS (fillL ts r l)).length ≤ ts.length * (S + T + 1) + T
  | [], r, l, hf, hl, ht => by
    have hf' : Fit 0 r l := hf
    unfold Fit at hf'
    unfold fillL
    cases r with
    | true =>
      simp only [if_true] at hf' ⊢
      obtain ⟨cs, -, rfl⟩ := hf'
      have := hl cs (List.mem_cons_self ..)
      simp only [List.flatten_cons, List.flatten_nil, List.append_nil]
      omega
    | false => simp [joinS]
  | t :: ts, r, l, hf, hl, ht => by
    have ht0 := ht t (List.mem_cons_self ..)
    have htr := fun x (hx : x ∈ ts) => ht x (List.mem_cons_of_mem _ hx)
    rw [stars_cons] at hf
    unfold fillL
    cases hs : star t with
    | true =>
      rw [hs] at hf
      obtain ⟨x, l', hx, rfl, hf'⟩ := hf
      rw [if_pos rfl]
      have ih := fill_len S T ts r l' hf' (fun cs hcs => hl cs (List.mem_cons_of_mem _ hcs)) htr
      have h1 : x.length ≤ T := hl [x] (List.mem_cons_self ..)
      have h2 := joinS_cons_le (x ++ suf t) (fillL ts r l')
      rw [List.length_append] at h2
      have h3 : (suf t).length ≤ S := by unfold suf; rw [List.length_drop]; omega
      simp only [List.head?_cons, Option.getD_some, List.flatten_cons, List.flatten_nil, List.append_nil, List.tail_cons, List.length_cons, Nat.add_mul, Nat.one_mul] at ih h2 ⊢
      omega
    | false =>
      rw [hs] at hf
      rw [if_neg (by decide)]
      have ih := fill_len S T ts r l hf hl htr
      have h2 := joinS_cons_le t (fillL ts r l)
      simp only [List.length_cons, Nat.add_mul, Nat.one_mul] at ih h2 ⊢
      omega

/-- The other path. -/
def TrO (R : List Str → List Str → Prop) (s : Str) (S T : Nat) (w : World) (en : Ending) (w' : World) : Prop :=
  ∃ (u : Str) (b : Bool), en = .returned (.tuple #[.string (bs u), .bool b]) ∧ FwdOk R s u b ∧ u.length ≤ 12 * (S + T + 1) + T + 2 ∧ Ext w w'
theorem match_rel {f t : Pat} {s : Str} {L : List Str} (hf : OkP f) (ht : OkP t) (hst : stars f.parts = stars t.parts) (hr : f.rest = t.rest) (hm : matchS f s = some L) :
    ∃ (l : List (List Str)) (xs : List Str), L = l.map joinS ∧ PathOk xs ∧ s = pathS xs ∧ capt f.parts f.rest xs = some l ∧ Fit (stars t.parts) t.rest l ∧ (∀ cs ∈ l, ∀ x ∈ cs, compB x = true) ∧
      (∀ cs ∈ l, (joinS cs).length ≤ (joinS xs).length) ∧ rel f t xs (fillL t.parts t.rest l) ∧ PathOk (fillL t.parts t.rest l) := by
  unfold matchS at hm
  rw [if_pos (okP_of.2 hf)] at hm
  cases hs : splitP s with
  | none => rw [hs] at hm; cases hm
  | some xs =>
    rw [hs, Option.bind_some] at hm
    obtain ⟨hp, hsx⟩ := splitP_some hs
    cases hc : capt f.parts f.rest xs with
    | none => rw [hc] at hm; cases hm
    | some l =>
      rw [hc] at hm
      cases hm
      have hfit := capt_fit _ _ _ _ hc
      rw [hst, hr] at hfit
      have hrel : rel f t xs (fillL t.parts t.rest l) := ⟨l, hc, capt_fill _ _ _ hfit⟩
      exact ⟨l, xs, rfl, hp, hsx, hc, hfit, capt_comps _ _ _ _ hp.2 hc, capt_joinS _ _ _ _ hc, hrel, rel_path ht hp hrel⟩
theorem match_no {f : Pat} {s : Str} (hf : OkP f) (hm : matchS f s = none) (xs : List Str) (hx : PathOk xs) (hs : s = pathS xs) : f.has xs = false := by
  unfold matchS at hm
  rw [if_pos (okP_of.2 hf), hs, splitP_path hx, Option.bind_some] at hm
  unfold Pat.has
  rw [← capt_isSome]
  cases hc : capt f.parts f.rest xs with
  | none => rfl
  | some l => rw [hc] at hm; cases hm
set_option maxRecDepth 100000 in
set_option maxHeartbeats 4000000 in
theorem translate_any (f t : Pt) (S T : Nat) (s : Str) (w : World) (hf : PtI w S f) (ht : PtI w S t) (hS : S ≤ 1073741824) (hs : s.length ≤ T) (hT : T ≤ 1073741824) (hof : OkP f.P) (hot : OkP t.P) (hst : stars f.P.parts = stars t.P.parts) (hr : f.P.rest = t.P.rest) :
    Calls Tryz.prog 66 #[f.v, t.v, .string (bs s)] w (TrO (rel f.P t.P) s S T w) := by
  have HMA := Lib.hid fun w' (h : Ext w w') => Match_any f S s w' (hf.ext h) hS (by omega)
  have HMR := Lib.hid fun L (h : matchS f.P s = some L) => match_rel hof hot hst hr h
  have HMN := Lib.hid fun (h : matchS f.P s = none) xs hx hs' => match_no hof h xs hx hs'
  have HFI := Lib.hid fun (a1 : Option Addr) (c1 : Nat) (l : List (List Str)) (xs : List Str) w' (h : Ext w w') (h1 : Row w' a1 l.length c1 1 ((l.map joinS).map sv)) (h2 : Fit (stars t.P.parts) t.P.rest l) (h3 : ∀ cs ∈ l, ∀ x ∈ cs, compB x = true) (h4 : ∀ cs ∈ l, (joinS cs).length ≤ (joinS xs).length) (h5 : s = pathS xs) =>
    (show Calls Tryz.prog 94 #[t.v, .slice a1 l.length c1] w' (NewNone (.tuple #[.string (bs (pathS (fillL t.P.parts t.P.rest l))), .int .i64 0]) w') ∧ (pathS (fillL t.P.parts t.P.rest l)).length ≤ 12 * (S + T + 1) + T + 2 from by
      have hj : (joinS xs).length ≤ T := by
        have : (pathS xs).length = (joinS xs).length + 2 := by simp [pathS]
        rw [← h5] at this; omega
      have hfl := fill_len S T t.P.parts t.P.rest l h2 (fun cs hcs => Nat.le_trans (h4 cs hcs) hj) ht.small
      have hm := Nat.mul_le_mul_right (S + T + 1) hot.le
      refine ⟨Fill_any t S a1 c1 l w' (ht.ext h) hS h1 hot h2 h3 (fun cs hcs => by have := h4 cs hcs; omega) (by omega), ?_⟩
      have : (pathS (fillL t.P.parts t.P.rest l)).length = (joinS (fillL t.P.parts t.P.rest l)).length + 2 := by simp [pathS]
      omega)
  clear hf ht hof hot hst hr
  obtain ⟨fa, fn, fc, fP⟩ := f
  obtain ⟨ta, tn, tc, tP⟩ := t
  obtain ⟨M, hM⟩ : ∃ M, M = matchS fP s := ⟨_, rfl⟩
  have HM := Lib.hid hM
  have HMA' := Lib.hid (show ∀ w', Ext w w' → Calls Tryz.prog 64 #[.agg #[.slice fa fn fc, .bool fP.rest], .string (bs s)] w' (fun en w'' => ∃ a n c, en = .returned (.tuple #[.slice a n c, .bool M.isSome]) ∧ (∀ L, M = some L → n = L.length ∧ w''.ownsRow w'.heap.size 9 1 (.slice a n c) n (L.map sv)) ∧ Ext w' w'') from by rw [hM]; exact HMA.out)
  obtain ⟨post, hpo⟩ : ∃ q : Ending → World → Prop, q = TrO (rel fP tP) s S T w := ⟨_, rfl⟩
  rw [← hpo]
  have HPO := Lib.hid hpo
  have HX := Lib.hid (two_boxes w #[.slice fa fn fc, .bool fP.rest] #[.slice ta tn tc, .bool tP.rest] 39 39)
  clear hpo hM HMA
  go_enter Tryz.func66, Tryz.ntmps66
  go_upto_region 1 with fail
  generalize (w.alloc (.cells #[.slice fa fn fc, .bool fP.rest] 39)).alloc (.cells #[.slice ta tn tc, .bool tP.rest] 39) = w2 at HX ⊢
  obtain ⟨hx2, hh1, hh2⟩ := HX.out
  have HX2 := Lib.hid hx2
  have HB2 := Lib.hid hh2
  have hr13 := (box2 hh1).2.2
  generalize w.heap.size = b at HB2 hr13 ⊢
  clear hx2 hh1 hh2 HX
  go_upto_region 2 with (first
    | ((with_reducible refine atSlot 13 ?_); refine wpList_of_wp rfl (wp_load_mid (op := ⟨some 13, _, _, _, _, _⟩) 39 _ rfl b 0 rfl [.slice fa fn fc, .bool fP.rest] _ hr13 Tryz.underlying39 rfl (by kernel_rfl) ?_); clear hr13)
    | (go_at_call 64; (with_reducible refine (HMA'.out _ HX2.out).mono ?_); rintro en w3 ⟨a1, n1, c1, rfl, h2, hx3⟩; have H2 := Lib.hid h2; have HX3 := Lib.hid (HX2.out.trans' hx3); have hr21 := (box2 (hx3.heap' HB2.out)).2.2; clear h2 hx3)
    | fail)
  cases M with
  | none =>
    go_wp2
    rw [HPO.out]
    exact ⟨[], false, rfl, .inr ⟨rfl, rfl, fun xs hx hs' ys hr => by have h1 := HMN.out HM.out.symm xs hx hs'; rw [rel_left hr] at h1; cases h1⟩, by simp, HX3.out⟩
  | some L =>
    obtain ⟨rfl, hown⟩ := H2.out L rfl
    obtain ⟨l, xs, rfl, g1, g2, g3, g4, g5, g6, g7, g8⟩ := HMR.out L HM.out.symm
    have hrow : Row w3 a1 l.length c1 1 ((l.map joinS).map sv) := by
      have h := Row.of_own hown
      rwa [List.length_map] at h
    obtain ⟨hfi, hlen⟩ := HFI.out a1 c1 l xs w3 HX3.out hrow g4 g5 g6 g2
    rw [List.length_map]
    have HFI' := Lib.hid hfi
    have HLN := Lib.hid hlen
    have HW := Lib.hid (show FwdOk (rel fP tP) s (pathS (fillL tP.parts tP.rest l)) true from .inl ⟨rfl, xs, _, g1, g8, g2, rfl, g7⟩)
    clear hfi hlen hrow hown g1 g2 g3 g4 g5 g6 g7 g8 HMR HMN HFI HM H2
    obtain ⟨u, hu⟩ : ∃ u, u = pathS (fillL tP.parts tP.rest l) := ⟨_, rfl⟩
    have HFJ := Lib.hid (show Calls Tryz.prog 94 #[.agg #[.slice ta tn tc, .bool tP.rest], .slice a1 l.length c1] w3 (NewNone (.tuple #[.string (bs u), .int .i64 0]) w3) from by rw [hu]; exact HFI'.out)
    rw [show pathS (fillL (Pt.P ⟨ta, tn, tc, tP⟩).parts (Pt.P ⟨ta, tn, tc, tP⟩).rest l) = pathS (fillL tP.parts tP.rest l) from rfl] at HLN
    rw [← hu] at HW HLN
    clear hu HFI'
    go_wp2_with (first
      | ((with_reducible refine atSlot 21 ?_); refine wpList_of_wp rfl (wp_load_mid (op := ⟨some 21, _, _, _, _, _⟩) 39 _ rfl (b + 1) 0 rfl [.slice ta tn tc, .bool tP.rest] _ hr21 Tryz.underlying39 rfl (by kernel_rfl) ?_); clear hr21)
      | (go_at_call 94; (with_reducible refine HFJ.out.mono ?_); rintro en w4 ⟨rfl, hx4⟩; have HX4 := Lib.hid (HX3.out.trans' hx4); clear hx4)
      | fail)
    rw [HPO.out]
    exact ⟨u, true, rfl, HW.out, HLN.out, HX4.out⟩

set_option maxRecDepth 100000 in
set_option maxHeartbeats 4000000 in
theorem RForward_any (k : Rl) (S T : Nat) (s : Str) (w : World) (hk : RlI w S k) (hS : S ≤ 1073741824) (hs : s.length ≤ T) (hT : T ≤ 1073741824) (hok : OkR k.l.P k.r.P) :
    Calls Tryz.prog 32 #[k.v, .string (bs s)] w (TrO (rel k.l.P k.r.P) s S T w) := by
  have HCK := Lib.hid fun w' (h : Ext w w') => (RCheck_any k S w' (hk.ext h) (by omega)).mono fun en w'' hh => (show NewNone (.int .i64 0) w' en w'' from by
    obtain ⟨e, h1, h2, h3⟩ := hh
    obtain rfl : e = 0 := h2.2 hok
    exact ⟨h1, h3⟩)
  have HTR := Lib.hid fun w' (h : Ext w w') => translate_any k.l k.r S T s w' (hk.l.ext h) (hk.r.ext h) hS hs hT hok.left hok.right hok.st hok.rest
  clear hk hs hok
  obtain ⟨x, ⟨la, ln, lc, lP⟩, ⟨ra, rn, rc, rP⟩⟩ := k
  obtain ⟨post, hpo⟩ : ∃ q : Ending → World → Prop, q = TrO (rel lP rP) s S T w := ⟨_, rfl⟩
  rw [← hpo]
  have HPO := Lib.hid hpo
  have HX := Lib.hid (Ext.alloc' w (.cells #[.bool x, .slice la ln lc, .bool lP.rest, .slice ra rn rc, .bool rP.rest] 48))
  have hh := heap_alloc_new w (.cells #[.bool x, .slice la ln lc, .bool lP.rest, .slice ra rn rc, .bool rP.rest] 48)
  clear hpo
  go_enter Tryz.func32, Tryz.ntmps32
  go_upto_region 1 with fail
  change Code.wp _ _ _ _ (w.alloc (.cells #[.bool x, .slice la ln lc, .bool lP.rest, .slice ra rn rc, .bool rP.rest] 48))
  generalize w.alloc (.cells #[.bool x, .slice la ln lc, .bool lP.rest, .slice ra rn rc, .bool rP.rest] 48) = w1 at HX hh ⊢
  generalize w.heap.size = b at hh ⊢
  have HB := Lib.hid hh
  have hr6 := (box5 hh).2.2.2
  clear hh
  go_wp2_with (first
    | ((with_reducible refine atSlot 6 ?_); refine wpList_of_wp rfl (wp_load_mid (op := ⟨some 6, _, _, _, _, _⟩) 48 _ rfl b 0 rfl [.bool x, .slice la ln lc, .bool lP.rest, .slice ra rn rc, .bool rP.rest] _ hr6 Tryz.underlying48 rfl (by kernel_rfl) ?_); clear hr6)
    | (go_at_call 41; (with_reducible refine (HCK.out _ HX.out).mono ?_); rintro en w2 ⟨rfl, hx2⟩; have HX2 := Lib.hid (HX.out.trans' hx2); have hr10 := (box5 (hx2.heap' HB.out)).2.1; have hr12 := (box5 (hx2.heap' HB.out)).2.2.1; clear hx2)
    | ((with_reducible refine atSlot 10 ?_); refine wpList_of_wp rfl (wp_load_mid (op := ⟨some 10, _, _, _, _, _⟩) 39 _ rfl b 1 rfl [.slice la ln lc, .bool lP.rest] _ hr10 Tryz.underlying39 rfl (by kernel_rfl) ?_); clear hr10)
    | ((with_reducible refine atSlot 12 ?_); refine wpList_of_wp rfl (wp_load_mid (op := ⟨some 12, _, _, _, _, _⟩) 39 _ rfl b 3 rfl [.slice ra rn rc, .bool rP.rest] _ hr12 Tryz.underlying39 rfl (by kernel_rfl) ?_); clear hr12)
    | (go_at_call 66; (with_reducible refine (HTR.out _ HX2.out).mono ?_); rintro en w3 ⟨u, q, rfl, h3, h4, hx3⟩; have H3 := Lib.hid h3; have H4 := Lib.hid h4; have HX3 := Lib.hid (HX2.out.trans' hx3); clear h3 h4 hx3)
    | fail)
  rw [HPO.out]
  exact ⟨u, q, rfl, H3.out, H4.out, HX3.out⟩

theorem box5c {w : World} {g : Nat} {x y z u v : Value} {t : TypeId} {fr : Nat × Nat} (h : w.heap[g]? = some (.cells #[x, y, z, u, v] t fr)) :
    w.cell? ⟨g, 0, none⟩ = some x ∧ w.cell? ⟨g, 1, none⟩ = some y ∧ w.cell? ⟨g, 2, none⟩ = some z ∧ w.cell? ⟨g, 3, none⟩ = some u ∧ w.cell? ⟨g, 4, none⟩ = some v :=
  ⟨by rw [cell_of_row w g 0 _ _ _ h]; rfl, by rw [cell_of_row w g 1 _ _ _ h]; rfl, by rw [cell_of_row w g 2 _ _ _ h]; rfl, by rw [cell_of_row w g 3 _ _ _ h]; rfl, by rw [cell_of_row w g 4 _ _ _ h]; rfl⟩
/-- A new line. -/
def NewRl (x : Bool) (P Q : Pat) (S : Nat) (w : World) (en : Ending) (w' : World) : Prop := ∃ k : Rl, k.x = x ∧ k.l.P = P ∧ k.r.P = Q ∧ en = .returned k.v ∧ RlO w' w.heap.size S k ∧ Ext w w'
set_option maxRecDepth 100000 in
set_option maxHeartbeats 4000000 in
theorem RTurn_any (k : Rl) (S : Nat) (w : World) (hk : RlI w S k) (hl : k.l.n ≤ 1099511627776) (hr : k.r.n ≤ 1099511627776) : Calls Tryz.prog 67 #[k.v] w (NewRl k.x k.r.P k.l.P S w) := by
  have HCL := Lib.hid fun w' (h : Ext w w') => Copy_any k.l S w' (hk.l.ext h) hl
  have HCR := Lib.hid fun w' (h : Ext w w') => Copy_any k.r S w' (hk.r.ext h) hr
  clear hk hl hr
  obtain ⟨x, ⟨la, ln, lc, lP⟩, ⟨ra, rn, rc, rP⟩⟩ := k
  go_enter Tryz.func67, Tryz.ntmps67
  go_upto_region 1 with fail
  obtain ⟨hx2, hh1, hh2⟩ := two_boxes w #[.bool x, .slice la ln lc, .bool lP.rest, .slice ra rn rc, .bool rP.rest] #[.bool false, .slice none 0 0, .bool false, .slice none 0 0, .bool false] 48 48
  generalize (w.alloc (.cells #[.bool x, .slice la ln lc, .bool lP.rest, .slice ra rn rc, .bool rP.rest] 48)).alloc (.cells #[.bool false, .slice none 0 0, .bool false, .slice none 0 0, .bool false] 48) = w2 at hx2 hh1 hh2 ⊢
  have HX := Lib.hid hx2
  have HH1 := Lib.hid fun w' (h : Ext w2 w') => box5c (h.heap' hh1)
  have HH2 := Lib.hid hh2
  have E2 := Ext.drew' w2
  clear hx2 hh1 hh2
  refine wp_region_e [9] (.qs [0, 1, 2, 3, 5, 6] (.l 4 (.l 7 (.qs [8] (.l 9 .nil))))) (by kernel_rfl) (by kernel_rfl) ?_
  ((refine wpY_q rfl rfl _ (fun w' hx' => by go_simp; try rfl) ?_; go_simp))
  refine wpY_q rfl rfl (.bool x) (fun w' hx' => by obtain ⟨c0, -⟩ := HH1.out w' hx'; go_simp; try rfl) ?_
  go_simp
  ((refine wpY_q rfl rfl _ (fun w' hx' => by go_simp; try rfl) ?_; go_simp))
  refine wpY_q rfl rfl (.agg #[.slice ra rn rc, .bool rP.rest]) (fun w' hx' => by obtain ⟨-, -, -, c3, c4⟩ := HH1.out w' hx'; go_simp; try rfl) ?_
  go_simp
  ((refine wpY_q rfl rfl _ (fun w' hx' => by go_simp; try rfl) ?_; go_simp))
  refine wpY_q rfl rfl (.agg #[.slice la ln lc, .bool lP.rest]) (fun w' hx' => by obtain ⟨-, c1, c2, -, -⟩ := HH1.out w' hx'; go_simp; try rfl) ?_
  go_simp
  refine wpY_l rfl rfl ?_
  go_simp
  refine (HCR.out _ (HX.out.trans' E2)).mono ?_
  rintro en w3 ⟨⟨a3, n3, c3, P3⟩, hP3, rfl, ho3, hx3⟩
  obtain rfl : P3 = rP := hP3
  refine ⟨E2.trans' hx3, ?_⟩
  have hx23 := E2.trans' hx3
  go_simp
  refine wpY_l rfl rfl ?_
  go_simp
  refine (HCL.out _ (HX.out.trans' hx23)).mono ?_
  rintro en w4 ⟨⟨a4, n4, c4, P4⟩, hP4, rfl, ho4, hx4⟩
  obtain rfl : P4 = lP := hP4
  have hx24 := hx23.trans' hx4
  refine ⟨hx24, ?_⟩
  have hh4 := hx24.heap' HH2.out
  go_simp
  ((refine wpY_q rfl rfl _ (fun w' hx' => by go_simp; try rfl) ?_; go_simp))
  go_simp
  refine wpY_l rfl rfl (wp_store_row _ _ _ rfl (w.heap.size + 1) #[.bool x, .slice a3 n3 c3, .bool P3.rest, .slice a4 n4 c4, .bool P4.rest] rfl rfl _ _ hh4 (by kernel_rfl) rfl (by simp [Value.oneCell']) ?_)
  refine ⟨fun h => absurd h (by decide), wpY_nil ?_⟩
  go_wp2
  refine bodyPost_ret (results_cells rfl _ (w.heap.size + 1) [.bool x, .slice a3 n3 c3, .bool P3.rest, .slice a4 n4 c4, .bool P4.rest] _ rfl (fun j v hj => by have h := (box5 (setRow_heap _ _ _ _ _ _ hh4)).2.2.2 j v hj; rwa [Nat.zero_add] at h) Tryz.underlying48 rfl (by kernel_rfl)) rfl ?_
  have hsz := HX.out.size
  have hs2 := E2.size
  have hs3 := hx23.size
  have hp3 := own_other (ho3.ext hx4).own (grown_setRow w4 (w.heap.size + 1) #[.bool x, .slice a3 n3 c3, .bool P3.rest, .slice a4 n4 c4, .bool P4.rest]) (fun e => own_apart (ho3.ext hx4).own hh4 (by decide) e.symm)
  have hp4 := own_other ho4.own (grown_setRow w4 (w.heap.size + 1) #[.bool x, .slice a3 n3 c3, .bool P3.rest, .slice a4 n4 c4, .bool P4.rest]) (fun e => own_apart ho4.own hh4 (by decide) e.symm)
  exact ⟨⟨x, ⟨a3, n3, c3, P3⟩, ⟨a4, n4, c4, P4⟩⟩, rfl, rfl, rfl, rfl, ⟨⟨own_base hp3 (by omega), ho3.small⟩, ⟨own_base hp4 (by omega), ho4.small⟩⟩, (HX.out.trans' hx24).setRow (by omega)⟩
end Go.Proofs.YtejljmikammcdaaGreatDoor
