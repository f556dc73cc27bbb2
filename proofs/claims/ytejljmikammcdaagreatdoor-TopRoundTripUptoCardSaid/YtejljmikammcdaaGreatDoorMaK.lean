/-
  Layer mapping: Compose.
-/
import Derived.Test.YtejljmikammcdaaGreatDoorMaJ
namespace Go.Proofs.YtejljmikammcdaaGreatDoor
open Go.RowKit
attribute [local go_sem] Oper.semAt_some

theorem results_cc {P : Program} {w : World} {fn : Func} {p q : Tmp} {t1 t2 : TypeId} (h : fn.results = #[.cell p t1, .cell q t2]) (tmps : Array Value) (g1 g2 : Nat) (v1 v2 : Value)
    (hp : tmps.getD p undef = .pointer (some ⟨g1, 0, none⟩)) (hq : tmps.getD q undef = .pointer (some ⟨g2, 0, none⟩)) (ha1 : ∀ w, (isAgg t1).run P w = .ok false w) (ha2 : ∀ w, (isAgg t2).run P w = .ok false w)
    (h1 : w.cell? ⟨g1, 0, none⟩ = some v1) (h2 : w.cell? ⟨g2, 0, none⟩ = some v2) : (results fn tmps).run P w = .ok (.tuple #[v1, v2]) w := by
  have hp' : tmps[p]?.getD undef = .pointer (some ⟨g1, 0, none⟩) := by simpa using hp
  have hq' : tmps[q]?.getD undef = .pointer (some ⟨g2, 0, none⟩) := by simpa using hq
  simp [results, h, hp', hq', asAddr, loadVar, ha1, ha2, h1, h2]
/-- mapping.Compose: what it answers. -/
def CompO (A B : List En) (T : Nat) (w : World) (en : Ending) (w' : World) : Prop :=
  ∃ (a : Option Addr) (n c e : Nat), en = .returned (.tuple #[.slice a n c, .int .i64 (e : Nat)]) ∧ (e = 0 → OkMm A ∧ OkMm B ∧ ∃ out : List En, n = out.length ∧ CmpOk (pairsL (A.map En.E) (B.map En.E)) (out.map En.E) ∧ EnsO w' w.heap.size T a c out) ∧ Ext w w'
def prsE {A B : List En} (xs : List (PrE A B)) : List (Ent × Ent) := xs.map fun p => (p.1.1.E, p.1.2.E)
/-- Between two rounds. -/
def CpI (w : World) (A B : List En) (T g : Nat) (pre : List (PrE A B)) (W : World) : Prop :=
  (∃ (out : List En) (full : Bool), CoI W w.heap.size T g out full ∧ (full = false → CmpOk (prsE pre) (out.map En.E))) ∧ Ext w W ∧ W.heap[w.heap.size]? = some (.cells #[.slice none 0 0] 24) ∧ W.heap[w.heap.size + 1]? = some (.cells #[.int .i64 0] 25)
/-- A round has left with an error. -/
def CpX (w : World) (A B : List En) (c : Code) (_ : List (PrE A B)) (W : World) : Prop :=
  c = .ret ∧ Ext w W ∧ W.heap[w.heap.size]? = some (.cells #[.slice none 0 0] 24) ∧ ∃ e : Nat, e ≠ 0 ∧ W.heap[w.heap.size + 1]? = some (.cells #[.int .i64 (e : Nat)] 25)
theorem back_step {a : Ent} {hs out : List Pat} {p : Pat} {o : Option (Pat × Pat)} (h : BackOk a hs out) (hr : OkR a.l a.r) (hp : OkP p) (ho : NarL a.r a.l p o) : BackOk a (hs ++ [p]) (out ++ (o.map Prod.snd).toList) := by
  refine ⟨fun q hq => ?_, fun xs ys hxy => ?_⟩
  · rcases List.mem_append.1 hq with hq | hq
    · exact h.1 q hq
    · cases o with
      | none => cases hq
      | some c =>
        obtain rfl : q = c.2 := by simpa using hq
        exact ho.2.2
  · rw [anyHas_append, anyHas_append, h.2 xs ys hxy]
    congr 1
    rw [anyHas_cons, anyHas_nil, Bool.or_false]
    cases o with
    | none => rw [ho.none_has hr.right hp ys (rel_right hxy)]; rfl
    | some c =>
      have h1 := NarL.hole ho hr.swap (rel_swap.1 hxy)
      show anyHas [c.2] xs = _
      rw [← h1]; simp [anyHas]
/-- Behind the chain, stored. -/
def ChM (x y : En) (S B : Nat) (W : World) (v10 v11 v12 : Value) (w' : World) : Prop :=
  ∃ (g : Rl) (q : Bool) (e gb : Nat), v10 = .pointer (some ⟨gb, 0, none⟩) ∧ v11 = .bool q ∧ v12 = .int .i64 (e : Nat) ∧
    (e = 0 → OkR x.l.P x.r.P ∧ OkR y.l.P y.r.P ∧ ∃ o, ChnR x.l.P x.r.P y.l.P y.r.P o ∧ q = o.isSome ∧ ∀ m c, o = some (m, c) → g.l.P = m ∧ g.r.P = c) ∧ RlO w' B (S + S) g ∧
    w'.heap[gb]? = some (.cells #[.bool g.x, .slice g.l.a g.l.n g.l.c, .bool g.l.P.rest, .slice g.r.a g.r.n g.r.c, .bool g.r.P.rest] 48) ∧ Ext W w'
/-- Between two rounds of the inner loop: the holes of the second entry, seen from the left. -/
def HlRel (x y : En) (S B : Nat) (W : World) (v13 v51 : Value) (wr : World) : Prop :=
  ∃ (j : Nat) (G : List Pt) (a : Option Addr) (c : Nat) (N : List Pat), v13 = .slice a G.length c ∧ v51 = .int .i64 j ∧ j ≤ y.hs.length ∧ G.length ≤ x.hs.length + j ∧
    wr.ownsRow W.heap.size 39 2 (.slice a G.length c) G.length (G.flatMap Pt.cells) ∧ (∀ q ∈ G, OkP q.P ∧ (q ∈ x.hs ∨ PtO wr B (S + S) q)) ∧ G.map Pt.P = x.hs.map Pt.P ++ N ∧ BackOk x.E ((y.hs.take j).map Pt.P) N ∧ Ext W wr
theorem prsE_snoc {A B : List En} (pre : List (PrE A B)) (x : PrE A B) : prsE (pre ++ [x]) = prsE pre ++ [(x.1.1.E, x.1.2.E)] := by simp [prsE]
/-- What is cells stays where a record turns. -/
theorem cells_keep {W W' : World} {row : Option Nat} {k B : Nat} {o : Obj} (h : W.heap[k]? = some o) (ho : o.isCells = true) (hg : W.grownBy W' row) (hr : ∀ r, row = some r → B ≤ r ∧ ∃ o : Obj, W.heap[r]? = some o ∧ o.isCells = false) : W'.heap[k]? = some o :=
  heap_keepR h hg fun e => by
    obtain ⟨-, p, h1, h2⟩ := hr k e
    rw [h] at h1; cases h1
    rw [ho] at h2; cases h2
theorem own_keep {W W' : World} {row : Option Nat} {D e s n c B : Nat} {a : Option Addr} {xs : List Value} (h : W.ownsRow D e s (.slice a n c) n xs) (hg : W.grownBy W' row) (hr : ∀ r, row = some r → B ≤ r ∧ ∃ o : Obj, W.heap[r]? = some o ∧ o.isCells = false) : W'.ownsRow D e s (.slice a n c) n xs := by
  cases row with
  | none => exact own_ext h (Ext.of_grown hg)
  | some r =>
    refine own_other h hg fun e => ?_
    obtain ⟨-, p, h1, h2⟩ := hr r rfl
    obtain ⟨cur, h3⟩ := own_heap h (b := r) e
    rw [h3] at h1; cases h1
    cases h2
theorem EnO.keep {W W' : World} {row : Option Nat} {D S B : Nat} {k : En} (h : EnO W D S k) (hg : W.grownBy W' row) (hr : ∀ r, row = some r → B ≤ r ∧ ∃ o : Obj, W.heap[r]? = some o ∧ o.isCells = false) : EnO W' D S k :=
  ⟨⟨own_keep h.l.own hg hr, h.l.small⟩, ⟨own_keep h.r.own hg hr, h.r.small⟩, ⟨own_keep h.hs.own hg hr, fun q hq => ⟨own_keep (h.hs.each q hq).own hg hr, (h.hs.each q hq).small⟩⟩⟩
theorem CoI.keep {W W' : World} {row : Option Nat} {D T g B : Nat} {L : List En} {full : Bool} (h : CoI W D T g L full) (hg : W.grownBy W' row) (hr : ∀ r, row = some r → B ≤ r ∧ ∃ o : Obj, W.heap[r]? = some o ∧ o.isCells = false) : CoI W' D T g L full := by
  obtain ⟨⟨a, c, h1, h2⟩, h3, h4, h5⟩ := h
  exact ⟨⟨a, c, cells_keep h1 rfl hg hr, own_keep h2 hg hr⟩, fun k hk => (h3 k hk).keep hg hr, h4, h5⟩
theorem ext_keep {w W W' : World} {row : Option Nat} {B : Nat} (h : Ext w W) (hB : w.heap.size ≤ B) (hg : W.grownBy W' row) (hr : ∀ r, row = some r → B ≤ r ∧ ∃ o : Obj, W.heap[r]? = some o ∧ o.isCells = false) : Ext w W' := by
  cases row with
  | none => exact h.trans' (Ext.of_grown hg)
  | some r => exact Ext.rd h hg (Nat.le_trans hB (hr r rfl).1)
theorem KeepsFrom.of_ext {B : Nat} {W W' : World} (h : Ext W W') : KeepsFrom B W W' := ⟨h.size, fun _ _ _ hk _ => h.heap' hk⟩
/-- A round leaves with an error. -/
theorem cpx_leave {A B : List En} {T g D b : Nat} {w W wz : World} {xs : List (PrE A B)} {a1 : Act} {n : Nat} {v : Value} (hx : Ext W wz) (hw : Ext w wz) (hb : b = w.heap.size) (h1 : (wz.setCell ⟨b, 0, none⟩ (.slice none 0 0)).heap[b]? = some (.cells (#[v].setIfInBounds 0 (.slice none 0 0)) 24))
    (h2 : (wz.setCell ⟨b, 0, none⟩ (.slice none 0 0)).heap[b + 1]? = some (.cells #[.int .i64 0] 25)) (hn : n ≠ 0) :
    ownPostG D (KpC g w.heap.size) (CpI w A B T g) (CpX w A B) xs W .ret a1 ((wz.setCell ⟨b, 0, none⟩ (.slice none 0 0)).setCell ⟨b + 1, 0, none⟩ (.int .i64 (n : Nat))) := by
  subst hb
  have hg1 := grown_setCell' wz w.heap.size 0 (.slice none 0 0)
  have hg2 := grown_setCell' (wz.setCell ⟨w.heap.size, 0, none⟩ (.slice none 0 0)) (w.heap.size + 1) 0 (.int .i64 (n : Nat))
  exact ⟨(KeepsFrom.of_ext hx).trans (((KeepsOthers.setCell _ _ _).trans (KeepsOthers.setCell _ _ _)).from _), rfl, Ext.rd (Ext.rd hw hg1 (Nat.le_refl _)) hg2 (by omega), heap_keep h1 hg2 (by omega), n, hn, box_set (i := 0) h2 (.int .i64 (n : Nat))⟩
theorem cpx_leave' {A B : List En} {T g D b : Nat} {w W wz : World} {xs : List (PrE A B)} {a1 : Act} {n : Nat} {v : Value} (hx : KeepsFrom D W wz) (hw : Ext w wz) (hb : b = w.heap.size) (h1 : (wz.setCell ⟨b, 0, none⟩ (.slice none 0 0)).heap[b]? = some (.cells (#[v].setIfInBounds 0 (.slice none 0 0)) 24))
    (h2 : (wz.setCell ⟨b, 0, none⟩ (.slice none 0 0)).heap[b + 1]? = some (.cells #[.int .i64 0] 25)) (hn : n ≠ 0) :
    ownPostG D (KpC g w.heap.size) (CpI w A B T g) (CpX w A B) xs W .ret a1 ((wz.setCell ⟨b, 0, none⟩ (.slice none 0 0)).setCell ⟨b + 1, 0, none⟩ (.int .i64 (n : Nat))) := by
  subst hb
  have hg1 := grown_setCell' wz w.heap.size 0 (.slice none 0 0)
  have hg2 := grown_setCell' (wz.setCell ⟨w.heap.size, 0, none⟩ (.slice none 0 0)) (w.heap.size + 1) 0 (.int .i64 (n : Nat))
  exact ⟨hx.trans (((KeepsOthers.setCell _ _ _).trans (KeepsOthers.setCell _ _ _)).from _), rfl, Ext.rd (Ext.rd hw hg1 (Nat.le_refl _)) hg2 (by omega), heap_keep h1 hg2 (by omega), n, hn, box_set (i := 0) h2 (.int .i64 (n : Nat))⟩
/-- A box that is no entry stays behind put. -/
theorem kep_box {W W' : World} {D T g k : Nat} {L : List En} {full : Bool} {cs : Array Value} {t : TypeId} {fr : Nat × Nat} (hc : CoI W D T g L full) (hk : Kep g W W') (h : W.heap[k]? = some (.cells cs t fr)) (hne : k ≠ g) (ht : t ≠ 60) : W'.heap[k]? = some (.cells cs t fr) := by
  obtain ⟨a, c, h1, h2⟩ := hc.box
  obtain ⟨a', n', c', f', -, h3⟩ := hk _ _ _ _ h1
  exact (h3 k _ h hne (fun e => own_apart h2 h ht e.symm)).1
/-- What a round that goes on leaves alone. -/
theorem kep_leave {w W wp w7 : World} {B T g : Nat} {L L' : List En} {full full' : Bool} (hw : Ext w W) (hx : Ext W wp) (hc : CoI wp w.heap.size T g L full) (hkp : Kep g wp w7) (hs : wp.heap.size ≤ w7.heap.size) (h7 : Ext w w7) (hc7 : CoI w7 w.heap.size T g L' full') :
    KeepsFrom B W w7 ∧ KpC g w.heap.size W w7 := by
  obtain ⟨a, c, h1, h2⟩ := hc.box
  obtain ⟨a', n', c', f', hb', h3⟩ := hkp _ _ _ _ h1
  obtain ⟨a7, c7, h4, h5⟩ := hc7.box
  have ha7 : a7 = a' := by
    rw [hb'] at h4
    simp only [Option.some.injEq, Obj.cells.injEq, and_true, Array.mk.injEq, List.cons.injEq, Value.slice.injEq, Value.bool.injEq] at h4
    exact h4.1.1.symm
  have hsz := Nat.le_trans hx.size hs
  refine ⟨⟨hsz, fun k o _ hk ho => (h3 k o (hx.heap' hk) ?_ ?_).1⟩, ⟨by rw [h7.os, hw.os], by rw [h7.tape, hw.tape], by rw [h7.output, hw.output], hsz, fun k hk => by rw [h7.block k hk, hw.block k hk]⟩, fun a0 ha0 => ?_⟩
  · intro e
    have h6 := hx.heap' hk
    rw [e, h1] at h6; cases h6; cases ho
  · intro e
    obtain ⟨cur, h6⟩ := own_heap h2 (b := k) e
    have := hx.heap' hk
    rw [h6] at this; cases this; cases ho
  · have ha : a = a0 := colAt_eq ⟨⟨_, _, _, h1⟩, fun k hk => (own_block h2 k hk).2⟩ (ha0.ext hx)
    subst ha
    exact ⟨a', ⟨⟨n', c', f', hb'⟩, fun k hk => by rw [← ha7] at hk; exact (own_block h5 k hk).2⟩, fun k o _ hk hne hn => h3 k o (hx.heap' hk) hne hn⟩
theorem CpI.own {w : World} {A B : List En} {T g D : Nat} (hD : w.heap.size ≤ D) : OwnFrom D (CpI w A B T g) := by
  rintro pre W W' row ⟨⟨out, full, h1, h2⟩, h3, h4, h5⟩ hg hr
  exact ⟨⟨out, full, h1.keep hg hr, h2⟩, ext_keep h3 hD hg hr, cells_keep h4 rfl hg hr, cells_keep h5 rfl hg hr⟩
theorem CpX.own {w : World} {A B : List En} {D : Nat} (c : Code) (hD : w.heap.size ≤ D) : OwnFrom D (CpX w A B c) := by
  rintro pre W W' row ⟨h1, h2, h3, e, h4, h5⟩ hg hr
  exact ⟨h1, ext_keep h2 hD hg hr, cells_keep h3 rfl hg hr, e, h4, cells_keep h5 rfl hg hr⟩
set_option maxRecDepth 100000 in
set_option maxHeartbeats 8000000 in
theorem Compose_any (A B : List En) (a a' : Option Addr) (c c' S : Nat) (w : World) (hA : EnsI w S a c A) (hB : EnsI w S a' c' B) (hS : S ≤ 536870912) : Calls Tryz.prog 9 #[.slice a A.length c, .slice a' B.length c'] w (CompO A B (S + S) w) := by
  have HRA := Lib.hid hA.row
  have HRB := Lib.hid hB.row
  have HCK := Lib.hid fun (p : Option Addr) w' (hx : Ext w w') (hr : Row w' p 2 2 1 [.slice a A.length c, .slice a' B.length c']) => (show Calls Tryz.prog 21 #[.slice p 2 2] w' (fun en w'' => ∃ e : Nat, en = .returned (.int .i64 (e : Nat)) ∧ (e = 0 ↔ OkMm A ∧ OkMm B) ∧ Ext w' w'') from
    (mcheck_any [⟨a, c, A⟩, ⟨a', c', B⟩] p 2 S w' hr (fun x hx' => by
      simp at hx'
      rcases hx' with rfl | rfl
      · exact hA.ext hx
      · exact hB.ext hx) (by simp) hS).mono fun en w'' hh => by
      obtain ⟨e, h1, h2, h3⟩ := hh
      exact ⟨e, h1, h2.trans (by simp), h3⟩)
  obtain ⟨post, hpo⟩ : ∃ q : Ending → World → Prop, q = CompO A B (S + S) w := ⟨_, rfl⟩
  rw [← hpo]
  have HPO := Lib.hid hpo
  have HX := Lib.hid (two_boxes w #[.slice none 0 0] #[.int .i64 0] 24 25)
  clear hpo
  refine (callsIn_wide (n := 9)).1 ?_
  refine callsIn_of_wp_marks Tryz.func9 rfl trivial ?_ rfl
  simp only [Tryz.ntmps9, List.size_toArray, List.length_cons, List.length_nil, Nat.reduceAdd, Nat.reduceSub, Array.replicate_succ, Array.replicate_zero, List.push_toArray, List.append_toArray, List.nil_append, List.cons_append]
  gi_upto_region 1 with fail
  generalize (w.alloc (.cells #[.slice none 0 0] 24)).alloc (.cells #[.int .i64 0] 25) = w2 at HX ⊢
  obtain ⟨hx2, hh1, hh2⟩ := HX.out
  have HX2 := Lib.hid hx2
  have HB1 := Lib.hid hh1
  have HB2 := Lib.hid hh2
  have HAL := Lib.hid (Ext.alloc' w2 (.cells #[.slice a A.length c, .slice a' B.length c'] 24))
  have HRW := Lib.hid (Row.new w2 #[.slice a A.length c, .slice a' B.length c'] 24 2 1 rfl (by decide))
  clear hx2 hh1 hh2 HX
  gi_upto_region 2 with (first
    | (refine ⟨trivial, ?_⟩; gi_at_call 21; refine (callsIn_wide.2 (HCK.out _ _ (HX2.out.trans' HAL.out) HRW.out)).mono ?_; rintro en w3 ⟨e, rfl, h2, hx3⟩; have H2 := Lib.hid h2; have HX3 := Lib.hid (HAL.out.trans' hx3); clear h2 hx3)
    | fail)
  have HC1 := Lib.hid (HX3.out.heap' HB1.out)
  have HC2 := Lib.hid (HX3.out.heap' HB2.out)
  obtain ⟨b, hb⟩ : ∃ b, b = w.heap.size := ⟨_, rfl⟩
  rw [← hb] at HB1 HB2 HC1 HC2 ⊢
  have HBB := Lib.hid hb
  have HX03 := Lib.hid (HX2.out.trans' HX3.out)
  clear hb HB1 HB2
  by_cases he0 : e ≠ 0
  · obtain ⟨q1, q2⟩ := neI (x := (e : Int)) (y := 0) (by omega)
    gi_wp2_with (first
      | ((with_reducible refine atStoreW 4 ?_); refine wpListIn_of_wpW rfl (owp_st1 (o := ⟨none, _, _, _, _, _⟩) _ _ _ rfl b 0 (.slice none 0 0) rfl rfl rfl (box_there HC1.out (by simp)) (by kernel_rfl) rfl ?_); have HD1 := Lib.hid (box_set (i := 0) HC1.out (.slice none 0 0)); have HD2 := Lib.hid (heap_keep HC2.out (grown_setCell' w3 b 0 (.slice none 0 0)) (by omega)))
      | ((with_reducible refine atStoreW 5 ?_); refine wpListIn_of_wpW rfl (owp_st1 (o := ⟨none, _, _, _, _, _⟩) _ _ _ rfl (b + 1) 0 (.int .i64 (e : Nat)) rfl rfl rfl (box_there HD2.out (by simp)) (by kernel_rfl) rfl ?_))
      | fail)
    have hg1 := grown_setCell' w3 b 0 (.slice none 0 0)
    have hg2 := grown_setCell' (w3.setCell ⟨b, 0, none⟩ (.slice none 0 0)) (b + 1) 0 (.int .i64 (e : Nat))
    have hE1 := heap_keep HD1.out hg2 (by omega)
    have hE2 := box_set (i := 0) HD2.out (.int .i64 (e : Nat))
    have hX := Ext.rd (Ext.rd HX03.out hg1 (by rw [HBB.out]; exact Nat.le_refl _)) hg2 (by rw [HBB.out]; omega)
    refine ⟨_, results_cc rfl _ b (b + 1) _ _ rfl rfl Tryz.isAgg24 Tryz.isAgg25 (cell_of_row _ b 0 _ _ _ hE1) (cell_of_row _ (b + 1) 0 _ _ _ hE2), ?_⟩
    rw [HPO.out]
    exact ⟨none, 0, 0, e, rfl, fun h => absurd h he0, hX⟩
  replace he0 : e = 0 := by omega
  subst he0
  have HOK := Lib.hid (H2.out.1 rfl)
  have hal := Ext.alloc' w3 (.cells #[.slice none 0 0, .bool false] 64)
  have hnw := heap_alloc_new w3 (.cells #[.slice none 0 0, .bool false] 64)
  have HGL := Lib.hid (show b + 1 < w3.heap.size from (Array.getElem?_eq_some_iff.1 HC2.out).1)
  gi_upto_region 5 with fail
  generalize w3.alloc (.cells #[.slice none 0 0, .bool false] 64) = w4 at hal hnw ⊢
  have HX4 := Lib.hid hal
  have HX04 := Lib.hid (HX03.out.trans' hal)
  have HG4 := Lib.hid hnw
  generalize w3.heap.size = g at HG4 HGL ⊢
  have HPR := Lib.hid (pairs_any a a' A.length c B.length c' w4)
  have hg4 : g < w4.heap.size := (Array.getElem?_eq_some_iff.1 HG4.out).1
  clear hal hnw H2 HCK HAL HRW
  gi_upto_if 29 with (first
    | (refine ⟨trivial, ?_⟩; gi_at_call 25; refine (callsIn_wide.2 HPR.out).mono ?_; rintro en w5 ⟨rfl, hx5, hp1, hp2⟩; have HX5 := Lib.hid hx5; have HP1 := Lib.hid hp1; have HP2 := Lib.hid hp2; clear hx5 hp1 hp2)
    | fail)
  have HE := Lib.hid (show ItE w g w4.heap.size (.slice a A.length c) (.slice a' B.length c') w5 from ⟨HX04.out.trans' HX5.out, HP1.out, HP2.out, ⟨none, ⟨⟨0, 0, false, HX5.out.heap' HG4.out⟩, fun k h => by cases h⟩, (by simp [blockOf]), (by simp [blockOf])⟩, by omega, by omega⟩)
  have hsz : w.heap.size ≤ w5.heap.size := (HX04.out.trans' HX5.out).size
  have hsb : b + 1 < w5.heap.size := Nat.lt_of_lt_of_le (Nat.lt_trans HGL.out hg4) HX5.out.size
  have hsg : g < w5.heap.size := Nat.lt_of_lt_of_le hg4 HX5.out.size
  refine wpIn_rangeFunc_ownH rfl (by decide) (gf := 57) (lb := #[.pointer (some ⟨w4.heap.size, 0, none⟩), .pointer (some ⟨w4.heap.size + 1, 0, none⟩)]) rfl trivial (enters_of Tryz.func57 (by kernel_rfl) rfl)
    (pairs1_stops 8 A B a a' c c' g w4.heap.size w w5 HRA.out HRB.out HE.out) (fun h k => KpC.t h k) (KpC.b hsz) (Below.refl _ _) (fun _ => rfl)
    (CpI w A B (S + S) g) (CpX w A B) (CpI.own hsz) (fun c => CpX.own c hsz)
    ⟨⟨[], false, ⟨⟨none, 0, HX5.out.heap' HG4.out, own_nil _ _ _ _⟩, (fun _ h => nomatch h), Nat.zero_le _, by have := HGL.out; have := HBB.out; omega⟩, fun _ => CmpOk.nil⟩, HX04.out.trans' HX5.out, by rw [← HBB.out]; exact (HX4.out.trans' HX5.out).heap' HC1.out, by rw [← HBB.out]; exact (HX4.out.trans' HX5.out).heap' HC2.out⟩
    (fun x a1 W => ∃ f s : Nat, W.heap[f]? = some (ebox x.1.1) ∧ W.heap[s]? = some (ebox x.1.2) ∧ a1 = { tmps := #[.slice a A.length c, .slice a' B.length c', undef, undef, .pointer (some ⟨b, 0, none⟩), .pointer (some ⟨b + 1, 0, none⟩), .int .i64 0, .pointer (some ⟨g, 0, none⟩), .pointer (some ⟨f, 0, none⟩), .pointer (some ⟨s, 0, none⟩), undef, undef, undef, undef, undef, undef, undef, undef, undef, undef, .slice a A.length c, .slice a' B.length c', .slice (some ⟨w2.heap.size, 0, none⟩) 2 2, .int .i64 0, .int .i64 0, .bool false, undef, .slice a A.length c, .slice a' B.length c', .func (.func 57) #[] #[.pointer (some ⟨w4.heap.size, 0, none⟩), .pointer (some ⟨w4.heap.size + 1, 0, none⟩)], x.1.1.v, x.1.2.v, undef, undef, undef, undef, undef, undef, undef, undef, undef, undef, undef, undef, undef, undef, undef, undef, undef, undef, undef, undef, undef, undef, undef, undef, undef, undef, undef, undef, undef, undef, undef, undef, undef, undef, undef, undef, undef, undef, undef, undef, undef, undef, undef, undef, undef, undef, undef, undef, undef], defers := [] })
    (fun x a1 _ X Y row hs hg hr => by
      obtain ⟨f, s, h1, h2, h3⟩ := hs
      exact ⟨f, s, cells_keep h1 rfl hg hr, cells_keep h2 rfl hg hr, h3⟩)
    ?assign ?body ?done ?stop
  case assign =>
    rintro l pre x W K hI hK
    obtain ⟨⟨x1, y1⟩, hx1, hy1⟩ := x
    simp only [prE, List.zip_toArray, List.zip_cons_cons, List.zip_nil_left]
    have HPN := Lib.hid (put_new W #[.slice none 0 0, .bool false, .slice none 0 0, .bool false, .slice none 0 0] #[.slice x1.l.a x1.l.n x1.l.c, .bool x1.l.P.rest, .slice x1.r.a x1.r.n x1.r.c, .bool x1.r.P.rest, .slice x1.a x1.hs.length x1.c] 60)
    have HNN := heap_alloc_new W (.cells #[.slice none 0 0, .bool false, .slice none 0 0, .bool false, .slice none 0 0] 60)
    gi_upto_region 7 with (first
      | ((with_reducible refine atStoreIn 8 ?_); refine wpListIn_of_wp rfl (fun c h => by cases h) (wp_store_row (o := ⟨none, _, _, _, _, _⟩) _ _ _ rfl W.heap.size #[.slice x1.l.a x1.l.n x1.l.c, .bool x1.l.P.rest, .slice x1.r.a x1.r.n x1.r.c, .bool x1.r.P.rest, .slice x1.a x1.hs.length x1.c] rfl rfl _ _ HNN (by kernel_rfl) rfl (by simp [Value.oneCell']) ?_))
      | fail)
    generalize (W.alloc (.cells #[.slice none 0 0, .bool false, .slice none 0 0, .bool false, .slice none 0 0] 60)).setRow W.heap.size #[.slice x1.l.a x1.l.n x1.l.c, .bool x1.l.P.rest, .slice x1.r.a x1.r.n x1.r.c, .bool x1.r.P.rest, .slice x1.a x1.hs.length x1.c] = W1 at HPN ⊢
    have HPM := Lib.hid (put_new W1 #[.slice none 0 0, .bool false, .slice none 0 0, .bool false, .slice none 0 0] #[.slice y1.l.a y1.l.n y1.l.c, .bool y1.l.P.rest, .slice y1.r.a y1.r.n y1.r.c, .bool y1.r.P.rest, .slice y1.a y1.hs.length y1.c] 60)
    have HNM := heap_alloc_new W1 (.cells #[.slice none 0 0, .bool false, .slice none 0 0, .bool false, .slice none 0 0] 60)
    gi_wp2_with (first
      | ((with_reducible refine atStoreIn 9 ?_); refine wpListIn_of_wp rfl (fun c h => by cases h) (wp_store_row (o := ⟨none, _, _, _, _, _⟩) _ _ _ rfl W1.heap.size #[.slice y1.l.a y1.l.n y1.l.c, .bool y1.l.P.rest, .slice y1.r.a y1.r.n y1.r.c, .bool y1.r.P.rest, .slice y1.a y1.hs.length y1.c] rfl rfl _ _ HNM (by kernel_rfl) rfl (by simp [Value.oneCell']) ?_))
      | fail)
    have hx12 := HPN.out.1.trans' HPM.out.1
    exact hK _ _ (KeepsFrom.of_ext hx12) (KpC.of_ext hx12 hI.2.1.size) (CpI.own (Nat.le_refl _) pre W _ none hI (grown_ext hx12) (fun r e => by cases e)) ⟨W.heap.size, W1.heap.size, HPM.out.1.heap' HPN.out.2, HPM.out.2, rfl⟩
  case body =>
    rintro l pre ⟨⟨x1, y1⟩, hx1, hy1⟩ a1 W hl hr hI ⟨f, s, hf, hs, rfl⟩ hlt
    dsimp only
    clear hr hl hlt
    have HI := Lib.hid hI
    have HF := Lib.hid (show W.heap[f]? = some (ebox x1) from hf)
    have HS := Lib.hid (show W.heap[s]? = some (ebox y1) from hs)
    clear hI hf hs
    have HXM := Lib.hid hx1
    have HYM := Lib.hid hy1
    have HWW := Lib.hid (show Ext w W from HI.out.2.1)
    have HL1 := Lib.hid fun w' => line_any x1 w'
    have HL3 := Lib.hid fun w' => line_any y1 w'
    have HAX := Lib.hid fun w' (h : Ext w w') => (hA.each x1 hx1).ext h
    have HBY := Lib.hid fun w' (h : Ext w w') => (hB.each y1 hy1).ext h
    have HCH := Lib.hid fun w' (h : Ext w w') => Chain_any (En.line x1) (En.line y1) S w' (HAX.out w' h).line (HBY.out w' h).line (by omega)
    have HIX := Lib.hid (HOK.out.1.each x1 hx1)
    have HIY := Lib.hid (HOK.out.2.each y1 hy1)
    have HOX := Lib.hid (HOK.out.1.okE hx1)
    have HOY := Lib.hid (HOK.out.2.okE hy1)
    have hXl : x1.hs.length ≤ 64 := HIX.out.2.2.2
    have hYl : y1.hs.length ≤ 64 := HIY.out.2.2.2
    obtain ⟨px, hpx⟩ : ∃ px : PrE A B, px = ⟨(x1, y1), hx1, hy1⟩ := ⟨_, rfl⟩
    rw [← hpx]
    have HPS := Lib.hid (show prsE (pre ++ [px]) = prsE pre ++ [(x1.E, y1.E)] by rw [prsE_snoc, hpx])
    clear hpx hx1 hy1
    gi_upto_region 8 with fail
    gi_cut [10, 11, 12] from 32 (fun s10 s11 s12 w' => ChM x1 y1 S w.heap.size W s10 s11 s12 w')
    case first =>
      have HR8 := Lib.hid (show Ext W W.drew from Ext.drew' W)
      refine wpIn_region_z (fun w' => Ext W w') HR8.out [] (.qs [0, 2] (.alt 1 (.alt 3 (.alt 4 (.qs [5, 6, 7, 8] (.l 9 (.l 10 (.qs [11, 12] .nil)))) (.alt 9 (.l 4 (.qs [5, 6, 7, 8] (.l 10 (.qs [11, 12] .nil)))) .stop)) (.alt 9 (.l 3 (.l 4 (.qs [5, 6, 7, 8] (.l 10 (.qs [11, 12] .nil))))) .stop)) (.alt 9 (.l 1 (.l 3 (.l 4 (.qs [5, 6, 7, 8] (.l 10 (.qs [11, 12] .nil)))))) .stop))) (by kernel_rfl) (by kernel_rfl) (by kernel_rfl) ?_
      refine wpZ_q rfl rfl (.agg #[.slice x1.l.a x1.l.n x1.l.c, .bool x1.l.P.rest, .slice x1.r.a x1.r.n x1.r.c, .bool x1.r.P.rest, .slice x1.a x1.hs.length x1.c]) (fun w' hx' => by obtain ⟨d0, d1, d2, d3, d4⟩ := box5c (hx'.heap' HF.out); go_simp; try rfl) ?_
      go_simp
      refine wpZ_q rfl rfl (.agg #[.slice y1.l.a y1.l.n y1.l.c, .bool y1.l.P.rest, .slice y1.r.a y1.r.n y1.r.c, .bool y1.r.P.rest, .slice y1.a y1.hs.length y1.c]) (fun w' hx' => by obtain ⟨d0, d1, d2, d3, d4⟩ := box5c (hx'.heap' HS.out); go_simp; try rfl) ?_
      go_simp
      refine wpZ_alt rfl rfl ?_ (wpZ_alt rfl rfl ?_ wpZ_stop)
      · skip
        go_simp
        refine (HL1.out _).mono ?_
        rintro en wa1 ⟨rfl, hxa1⟩
        have HY1 := Lib.hid ((HR8.out).trans' hxa1)
        refine ⟨HY1.out, ?_⟩
        clear hxa1
        go_simp
        refine wpZ_alt rfl rfl ?_ (wpZ_alt rfl rfl ?_ wpZ_stop)
        · skip
          go_simp
          refine (HL3.out _).mono ?_
          rintro en wa2 ⟨rfl, hxa2⟩
          have HY2 := Lib.hid ((HY1.out).trans' hxa2)
          refine ⟨HY2.out, ?_⟩
          clear hxa2
          go_simp
          refine wpZ_alt rfl rfl ?_ (wpZ_alt rfl rfl ?_ wpZ_stop)
          · skip
            go_simp
            refine (HCH.out _ (HWW.out.trans' HY2.out)).mono ?_
            rintro en wa3 ⟨⟨gx, ⟨ma, mn, mc, mP⟩, ⟨ca, cn, cc, cP⟩⟩, q, e, rfl, h1, h3, hxa3⟩
            have HH1 := Lib.hid h1
            have HY3 := Lib.hid ((HY2.out).trans' hxa3)
            have HH3 := Lib.hid (show RlO wa3 w.heap.size (S + S) ⟨gx, ⟨ma, mn, mc, mP⟩, ⟨ca, cn, cc, cP⟩⟩ from h3.base (HWW.out.trans' HY2.out).size)
            refine ⟨HY3.out, ?_⟩
            clear h1 h3 hxa3
            go_simp
            iterate 4 ((refine wpZ_q rfl rfl _ (fun w' hx' => by go_simp; try rfl) ?_; go_simp))
            refine wpZ_l rfl rfl ?_
            go_simp
            have hal := Ext.alloc' wa3 (.cells #[.bool false, .slice none 0 0, .bool false, .slice none 0 0, .bool false] 48)
            have hnw := heap_alloc_new wa3 (.cells #[.bool false, .slice none 0 0, .bool false, .slice none 0 0, .bool false] 48)
            generalize wa3.alloc (.cells #[.bool false, .slice none 0 0, .bool false, .slice none 0 0, .bool false] 48) = wa4 at hal hnw ⊢
            have HGB := Lib.hid (show W.heap.size ≤ wa3.heap.size from (HY3.out).size)
            generalize wa3.heap.size = gb at hnw HGB ⊢
            have HY4 := Lib.hid ((HY3.out).trans' hal)
            have HH4 := Lib.hid ((HH3.out).ext hal)
            have HV4 := Lib.hid hnw
            refine ⟨HY4.out, ?_⟩
            clear hal hnw
            go_simp
            refine wpZ_l rfl rfl (wp_store_row _ _ _ rfl gb #[.bool gx, .slice ma mn mc, .bool mP.rest, .slice ca cn cc, .bool cP.rest] rfl rfl _ _ HV4.out (by kernel_rfl) rfl (by simp [Value.oneCell']) ?_)
            have HZ1 := Lib.hid (rlo_row (cs' := #[.bool gx, .slice ma mn mc, .bool mP.rest, .slice ca cn cc, .bool cP.rest]) (HH4.out) HV4.out)
            have HZ2 := Lib.hid (show (wa4.setRow gb #[.bool gx, .slice ma mn mc, .bool mP.rest, .slice ca cn cc, .bool cP.rest]).heap[gb]? = some (.cells #[.bool gx, .slice ma mn mc, .bool mP.rest, .slice ca cn cc, .bool cP.rest] 48) from setRow_heap _ _ _ _ _ _ HV4.out)
            have HZ3 := Lib.hid (Ext.setRow (cs := #[.bool gx, .slice ma mn mc, .bool mP.rest, .slice ca cn cc, .bool cP.rest]) (HY4.out) HGB.out)
            refine ⟨fun _ => HZ3.out, ?_⟩
            go_simp
            iterate 2 ((refine wpZ_q rfl rfl _ (fun w' hx' => by go_simp; try rfl) ?_; go_simp))
            refine wpZ_nil ?_
            gi_wp2
            gi_meet
            exact ⟨⟨gx, ⟨ma, mn, mc, mP⟩, ⟨ca, cn, cc, cP⟩⟩, q, e, gb, rfl, rfl, rfl, HH1.out, HZ1.out, HZ2.out, HZ3.out⟩
          · skip
            go_simp
            have hal := Ext.alloc' wa2 (.cells #[.bool false, .slice none 0 0, .bool false, .slice none 0 0, .bool false] 48)
            have hnw := heap_alloc_new wa2 (.cells #[.bool false, .slice none 0 0, .bool false, .slice none 0 0, .bool false] 48)
            generalize wa2.alloc (.cells #[.bool false, .slice none 0 0, .bool false, .slice none 0 0, .bool false] 48) = wa3 at hal hnw ⊢
            have HGB := Lib.hid (show W.heap.size ≤ wa2.heap.size from (HY2.out).size)
            generalize wa2.heap.size = gb at hnw HGB ⊢
            have HY3 := Lib.hid ((HY2.out).trans' hal)
            have HV3 := Lib.hid hnw
            refine ⟨HY3.out, ?_⟩
            clear hal hnw
            refine wpZ_l rfl rfl ?_
            go_simp
            refine (HCH.out _ (HWW.out.trans' HY3.out)).mono ?_
            rintro en wa4 ⟨⟨gx, ⟨ma, mn, mc, mP⟩, ⟨ca, cn, cc, cP⟩⟩, q, e, rfl, h1, h3, hxa4⟩
            have HH1 := Lib.hid h1
            have HY4 := Lib.hid ((HY3.out).trans' hxa4)
            have HH3 := Lib.hid (show RlO wa4 w.heap.size (S + S) ⟨gx, ⟨ma, mn, mc, mP⟩, ⟨ca, cn, cc, cP⟩⟩ from h3.base (HWW.out.trans' HY3.out).size)
            have HV4 := Lib.hid (hxa4.heap' HV3.out)
            refine ⟨HY4.out, ?_⟩
            clear h1 h3 hxa4
            go_simp
            iterate 4 ((refine wpZ_q rfl rfl _ (fun w' hx' => by go_simp; try rfl) ?_; go_simp))
            refine wpZ_l rfl rfl (wp_store_row _ _ _ rfl gb #[.bool gx, .slice ma mn mc, .bool mP.rest, .slice ca cn cc, .bool cP.rest] rfl rfl _ _ HV4.out (by kernel_rfl) rfl (by simp [Value.oneCell']) ?_)
            have HZ1 := Lib.hid (rlo_row (cs' := #[.bool gx, .slice ma mn mc, .bool mP.rest, .slice ca cn cc, .bool cP.rest]) (HH3.out) HV4.out)
            have HZ2 := Lib.hid (show (wa4.setRow gb #[.bool gx, .slice ma mn mc, .bool mP.rest, .slice ca cn cc, .bool cP.rest]).heap[gb]? = some (.cells #[.bool gx, .slice ma mn mc, .bool mP.rest, .slice ca cn cc, .bool cP.rest] 48) from setRow_heap _ _ _ _ _ _ HV4.out)
            have HZ3 := Lib.hid (Ext.setRow (cs := #[.bool gx, .slice ma mn mc, .bool mP.rest, .slice ca cn cc, .bool cP.rest]) (HY4.out) HGB.out)
            refine ⟨fun _ => HZ3.out, ?_⟩
            go_simp
            iterate 2 ((refine wpZ_q rfl rfl _ (fun w' hx' => by go_simp; try rfl) ?_; go_simp))
            refine wpZ_nil ?_
            gi_wp2
            gi_meet
            exact ⟨⟨gx, ⟨ma, mn, mc, mP⟩, ⟨ca, cn, cc, cP⟩⟩, q, e, gb, rfl, rfl, rfl, HH1.out, HZ1.out, HZ2.out, HZ3.out⟩
        · skip
          go_simp
          have hal := Ext.alloc' wa1 (.cells #[.bool false, .slice none 0 0, .bool false, .slice none 0 0, .bool false] 48)
          have hnw := heap_alloc_new wa1 (.cells #[.bool false, .slice none 0 0, .bool false, .slice none 0 0, .bool false] 48)
          generalize wa1.alloc (.cells #[.bool false, .slice none 0 0, .bool false, .slice none 0 0, .bool false] 48) = wa2 at hal hnw ⊢
          have HGB := Lib.hid (show W.heap.size ≤ wa1.heap.size from (HY1.out).size)
          generalize wa1.heap.size = gb at hnw HGB ⊢
          have HY2 := Lib.hid ((HY1.out).trans' hal)
          have HV2 := Lib.hid hnw
          refine ⟨HY2.out, ?_⟩
          clear hal hnw
          refine wpZ_l rfl rfl ?_
          go_simp
          refine (HL3.out _).mono ?_
          rintro en wa3 ⟨rfl, hxa3⟩
          have HY3 := Lib.hid ((HY2.out).trans' hxa3)
          have HV3 := Lib.hid (hxa3.heap' HV2.out)
          refine ⟨HY3.out, ?_⟩
          clear hxa3
          go_simp
          refine wpZ_l rfl rfl ?_
          go_simp
          refine (HCH.out _ (HWW.out.trans' HY3.out)).mono ?_
          rintro en wa4 ⟨⟨gx, ⟨ma, mn, mc, mP⟩, ⟨ca, cn, cc, cP⟩⟩, q, e, rfl, h1, h3, hxa4⟩
          have HH1 := Lib.hid h1
          have HY4 := Lib.hid ((HY3.out).trans' hxa4)
          have HH3 := Lib.hid (show RlO wa4 w.heap.size (S + S) ⟨gx, ⟨ma, mn, mc, mP⟩, ⟨ca, cn, cc, cP⟩⟩ from h3.base (HWW.out.trans' HY3.out).size)
          have HV4 := Lib.hid (hxa4.heap' HV3.out)
          refine ⟨HY4.out, ?_⟩
          clear h1 h3 hxa4
          go_simp
          iterate 4 ((refine wpZ_q rfl rfl _ (fun w' hx' => by go_simp; try rfl) ?_; go_simp))
          refine wpZ_l rfl rfl (wp_store_row _ _ _ rfl gb #[.bool gx, .slice ma mn mc, .bool mP.rest, .slice ca cn cc, .bool cP.rest] rfl rfl _ _ HV4.out (by kernel_rfl) rfl (by simp [Value.oneCell']) ?_)
          have HZ1 := Lib.hid (rlo_row (cs' := #[.bool gx, .slice ma mn mc, .bool mP.rest, .slice ca cn cc, .bool cP.rest]) (HH3.out) HV4.out)
          have HZ2 := Lib.hid (show (wa4.setRow gb #[.bool gx, .slice ma mn mc, .bool mP.rest, .slice ca cn cc, .bool cP.rest]).heap[gb]? = some (.cells #[.bool gx, .slice ma mn mc, .bool mP.rest, .slice ca cn cc, .bool cP.rest] 48) from setRow_heap _ _ _ _ _ _ HV4.out)
          have HZ3 := Lib.hid (Ext.setRow (cs := #[.bool gx, .slice ma mn mc, .bool mP.rest, .slice ca cn cc, .bool cP.rest]) (HY4.out) HGB.out)
          refine ⟨fun _ => HZ3.out, ?_⟩
          go_simp
          iterate 2 ((refine wpZ_q rfl rfl _ (fun w' hx' => by go_simp; try rfl) ?_; go_simp))
          refine wpZ_nil ?_
          gi_wp2
          gi_meet
          exact ⟨⟨gx, ⟨ma, mn, mc, mP⟩, ⟨ca, cn, cc, cP⟩⟩, q, e, gb, rfl, rfl, rfl, HH1.out, HZ1.out, HZ2.out, HZ3.out⟩
      · skip
        go_simp
        have hal := (Ext.alloc' W (.cells #[.bool false, .slice none 0 0, .bool false, .slice none 0 0, .bool false] 48)).trans' (Ext.drew' _)
        have hnw := (Ext.drew' (W.alloc (.cells #[.bool false, .slice none 0 0, .bool false, .slice none 0 0, .bool false] 48))).heap' (heap_alloc_new W (.cells #[.bool false, .slice none 0 0, .bool false, .slice none 0 0, .bool false] 48))
        generalize (W.alloc (.cells #[.bool false, .slice none 0 0, .bool false, .slice none 0 0, .bool false] 48)).drew = wa1 at hal hnw ⊢
        have HGB := Lib.hid (Nat.le_refl W.heap.size)
        have HY1 := Lib.hid hal
        have HV1 := Lib.hid hnw
        refine ⟨HY1.out, ?_⟩
        clear hal hnw
        refine wpZ_l rfl rfl ?_
        go_simp
        refine (HL1.out _).mono ?_
        rintro en wa2 ⟨rfl, hxa2⟩
        have HY2 := Lib.hid ((HY1.out).trans' hxa2)
        have HV2 := Lib.hid (hxa2.heap' HV1.out)
        refine ⟨HY2.out, ?_⟩
        clear hxa2
        go_simp
        refine wpZ_l rfl rfl ?_
        go_simp
        refine (HL3.out _).mono ?_
        rintro en wa3 ⟨rfl, hxa3⟩
        have HY3 := Lib.hid ((HY2.out).trans' hxa3)
        have HV3 := Lib.hid (hxa3.heap' HV2.out)
        refine ⟨HY3.out, ?_⟩
        clear hxa3
        go_simp
        refine wpZ_l rfl rfl ?_
        go_simp
        refine (HCH.out _ (HWW.out.trans' HY3.out)).mono ?_
        rintro en wa4 ⟨⟨gx, ⟨ma, mn, mc, mP⟩, ⟨ca, cn, cc, cP⟩⟩, q, e, rfl, h1, h3, hxa4⟩
        have HH1 := Lib.hid h1
        have HY4 := Lib.hid ((HY3.out).trans' hxa4)
        have HH3 := Lib.hid (show RlO wa4 w.heap.size (S + S) ⟨gx, ⟨ma, mn, mc, mP⟩, ⟨ca, cn, cc, cP⟩⟩ from h3.base (HWW.out.trans' HY3.out).size)
        have HV4 := Lib.hid (hxa4.heap' HV3.out)
        refine ⟨HY4.out, ?_⟩
        clear h1 h3 hxa4
        go_simp
        iterate 4 ((refine wpZ_q rfl rfl _ (fun w' hx' => by go_simp; try rfl) ?_; go_simp))
        refine wpZ_l rfl rfl (wp_store_row _ _ _ rfl W.heap.size #[.bool gx, .slice ma mn mc, .bool mP.rest, .slice ca cn cc, .bool cP.rest] rfl rfl _ _ HV4.out (by kernel_rfl) rfl (by simp [Value.oneCell']) ?_)
        have HZ1 := Lib.hid (rlo_row (cs' := #[.bool gx, .slice ma mn mc, .bool mP.rest, .slice ca cn cc, .bool cP.rest]) (HH3.out) HV4.out)
        have HZ2 := Lib.hid (show (wa4.setRow W.heap.size #[.bool gx, .slice ma mn mc, .bool mP.rest, .slice ca cn cc, .bool cP.rest]).heap[W.heap.size]? = some (.cells #[.bool gx, .slice ma mn mc, .bool mP.rest, .slice ca cn cc, .bool cP.rest] 48) from setRow_heap _ _ _ _ _ _ HV4.out)
        have HZ3 := Lib.hid (Ext.setRow (cs := #[.bool gx, .slice ma mn mc, .bool mP.rest, .slice ca cn cc, .bool cP.rest]) (HY4.out) HGB.out)
        refine ⟨fun _ => HZ3.out, ?_⟩
        go_simp
        iterate 2 ((refine wpZ_q rfl rfl _ (fun w' hx' => by go_simp; try rfl) ?_; go_simp))
        refine wpZ_nil ?_
        gi_wp2
        gi_meet
        exact ⟨⟨gx, ⟨ma, mn, mc, mP⟩, ⟨ca, cn, cc, cP⟩⟩, q, e, W.heap.size, rfl, rfl, rfl, HH1.out, HZ1.out, HZ2.out, HZ3.out⟩
    case rest =>
      obtain ⟨⟨kx, ⟨pa, pn, pc, pP⟩, ⟨ra, rn, rc, rP⟩⟩, q, e, gk, rfl, rfl, rfl, h1, h2, h3, h4⟩ := hcut
      have H1 := Lib.hid h1
      have H2 := Lib.hid h2
      have H3 := Lib.hid h3
      have HXC := Lib.hid h4
      have HWC := Lib.hid (HWW.out.trans' h4)
      have HI4 := Lib.hid (show W.heap[b]? = some (.cells #[.slice none 0 0] 24) by rw [HBB.out]; exact HI.out.2.2.1)
      have HI5 := Lib.hid (show W.heap[b + 1]? = some (.cells #[.int .i64 0] 25) by rw [HBB.out]; exact HI.out.2.2.2)
      have HJ4 := Lib.hid (h4.heap' HI4.out)
      have HJ5 := Lib.hid (h4.heap' HI5.out)
      have HFC := Lib.hid (h4.heap' HF.out)
      have HSC := Lib.hid (h4.heap' HS.out)
      clear h1 h2 h3 h4 HCH HL3
      by_cases he0 : e ≠ 0
      · obtain ⟨q1, q2⟩ := neI (x := (e : Int)) (y := 0) (by omega)
        have HE1 := Lib.hid (HXC.out.heap' HI4.out)
        have HE2 := Lib.hid (HXC.out.heap' HI5.out)
        gi_wp2_with (first
          | ((with_reducible refine atStoreIn 4 ?_); refine wpListIn_of_wp rfl (fun c h => by cases h) (owp_st1 (o := ⟨none, _, _, _, _, _⟩) _ _ _ rfl b 0 (.slice none 0 0) rfl rfl rfl (box_there HE1.out (by simp)) (by kernel_rfl) rfl ?_); have HD1 := Lib.hid (box_set (i := 0) HE1.out (.slice none 0 0)); have HD2 := Lib.hid (heap_keep HE2.out (grown_setCell' wc b 0 (.slice none 0 0)) (by omega)))
          | ((with_reducible refine atStoreIn 5 ?_); refine wpListIn_of_wp rfl (fun c h => by cases h) (owp_st1 (o := ⟨none, _, _, _, _, _⟩) _ _ _ rfl (b + 1) 0 (.int .i64 72) rfl rfl rfl (box_there HD2.out (by simp)) (by kernel_rfl) rfl ?_))
          | fail)
        exact cpx_leave HXC.out HWC.out HBB.out HD1.out HD2.out (by decide)
      replace he0 : e = 0 := by omega
      subst he0
      obtain ⟨-, -, o, ho, hq, hog⟩ := H1.out rfl
      subst hq
      have HO := Lib.hid ho
      have HOG := Lib.hid hog
      clear H1 ho hog
      cases o with
      | none =>
        gi_wp2
        obtain ⟨⟨out, full, hco, hcm⟩, -, h4, h5⟩ := HI.out
        exact ⟨KeepsFrom.of_ext HXC.out, KpC.of_ext HXC.out HWW.out.size, ⟨out, full, hco.ext HXC.out, fun hf => by rw [HPS.out]; exact (hcm hf).skip HOX.out HOY.out HO.out⟩, HWC.out, HXC.out.heap' h4, HXC.out.heap' h5⟩
      | some mk =>
        obtain ⟨m1, r1⟩ := mk
        obtain ⟨hl1, hl2⟩ := HOG.out _ _ rfl
        have HKL := Lib.hid (show pP = m1 ∧ rP = r1 from ⟨hl1, hl2⟩)
        clear hl1 hl2 HOG
        have c46 := (box5e HFC.out).2.2.1
        have HCL := Lib.hid (CloneP_any x1.a x1.hs.length x1.c (x1.hs.flatMap Pt.cells) wc (HAX.out wc HWC.out).hs.row (flat_one pt_one x1.hs) (by omega))
        gi_upto_region 13 with (first
          | (refine ⟨trivial, ?_⟩; gi_at_call 28; refine (callsRF HCL.out).mono ?_; rintro en w6 ⟨a3, c3, rfl, ho3, hx3⟩; have HO3 := Lib.hid ho3; have HX3' := Lib.hid hx3; clear ho3 hx3)
          | fail)
        clear c46
        have c49 := (box5e (HX3'.out.heap' HSC.out)).2.2.1
        gi_upto_region 14 with fail
        clear c49
        gi_loopw [13, 51] (HlRel x1 y1 S w.heap.size wc) (fun _ j _ => y1.hs.length - (intOf j).toNat)
        case atStart => exact ⟨0, x1.hs, a3, c3, [], rfl, rfl, Nat.zero_le _, Nat.le_refl _, HO3.out, fun q hq => ⟨HIX.out.2.2.1 q hq, .inl hq⟩, by rw [List.append_nil], ⟨(fun _ h => nomatch h), fun _ _ _ => rfl⟩, HX3'.out⟩
        case round =>
          obtain ⟨j, G, a3, c3, N, rfl, rfl, hj, hGl, hown, hG, hGm, hbk, hx⟩ := hrel
          rename World => wp
          have HXP := Lib.hid (show Ext wc wp from hx)
          have HWP := Lib.hid (HWC.out.trans' hx)
          have HOW := Lib.hid hown
          have HGA := Lib.hid hG
          have HGM := Lib.hid hGm
          have HBK := Lib.hid hbk
          clear hx hown hG hGm hbk
          by_cases hjl : j < y1.hs.length
          · obtain ⟨p, hp⟩ : ∃ p, y1.hs[j]? = some p := ⟨_, List.getElem?_eq_getElem hjl⟩
            have HP := Lib.hid hp
            have HPO2 := Lib.hid (HIY.out.2.2.1 p (List.mem_of_getElem? hp))
            have HTK := Lib.hid (show (y1.hs.take (j + 1)).map Pt.P = (y1.hs.take j).map Pt.P ++ [p.P] by rw [List.take_add_one, hp]; simp)
            have HNR := Lib.hid fun w' (h : Ext w w') => NarrowRight_any (En.line x1) p S w' (HAX.out w' h).line ((HBY.out w' h).hs.each p (List.mem_of_getElem? hp)) (by omega)
            have hrow := (HBY.out wp HWP.out).hs.row
            have HPN := Lib.hid (put_new wp #[.slice none 0 0, .bool false] #[.slice p.a p.n p.c, .bool p.P.rest] 39)
            have HNN := heap_alloc_new wp (.cells #[.slice none 0 0, .bool false] 39)
            clear hp
            gi_upto_region 16 with (first
              | ((with_reducible refine atSlotIn 53 ?_); refine wpListIn_of_wp rfl (fun c h => by cases h) (owp_ix (o := ⟨some 53, _, _, _, _, _⟩) _ _ rfl Tryz.elPat rfl hrow j rfl rfl hjl ?_); intro b1 o1 hc2; have hd := flat_range pt_two HP.out hc2; clear hc2 hrow)
              | ((with_reducible refine atSlotIn 54 ?_); refine wpListIn_of_wp rfl (fun c h => by cases h) (wp_load_mid (op := ⟨some 54, _, _, _, _, _⟩) 39 _ rfl b1 o1 rfl [.slice p.a p.n p.c, .bool p.P.rest] _ hd Tryz.underlying39 rfl (by kernel_rfl) ?_); clear hd)
              | ((with_reducible refine atStoreIn 15 ?_); refine wpListIn_of_wp rfl (fun c h => by cases h) (wp_store_row (o := ⟨none, _, _, _, _, _⟩) _ _ _ rfl wp.heap.size #[.slice p.a p.n p.c, .bool p.P.rest] rfl rfl _ _ HNN (by kernel_rfl) rfl (by simp [Value.oneCell']) ?_); clear HNN)
              | fail)
            generalize (wp.alloc (.cells #[.slice none 0 0, .bool false] 39)).setRow wp.heap.size #[.slice p.a p.n p.c, .bool p.P.rest] = wq at HPN ⊢
            obtain ⟨hxq, hbq⟩ := HPN.out
            have HQ5 := Lib.hid hxq
            have HQW := Lib.hid (HXP.out.trans' hxq)
            have HWQ := Lib.hid (HWP.out.trans' hxq)
            have HBQ := Lib.hid hbq
            generalize wp.heap.size = gq at HBQ ⊢
            clear hxq hbq HPN
            have HR16 := Lib.hid (show Ext wq wq.drew from Ext.drew' wq)
            refine wpIn_region_z (fun w' => Ext wq w') HR16.out [] (.qs [0, 2] (.alt 1 (.alt 3 (.qs [4, 5, 6, 7] (.l 8 (.l 9 (.qs [10, 11] .nil)))) (.alt 8 (.l 3 (.qs [4, 5, 6, 7] (.l 9 (.qs [10, 11] .nil)))) .stop)) (.alt 8 (.l 1 (.l 3 (.qs [4, 5, 6, 7] (.l 9 (.qs [10, 11] .nil))))) .stop))) (by kernel_rfl) (by kernel_rfl) (by kernel_rfl) ?_
            refine wpZ_q rfl rfl (.agg #[.slice x1.l.a x1.l.n x1.l.c, .bool x1.l.P.rest, .slice x1.r.a x1.r.n x1.r.c, .bool x1.r.P.rest, .slice x1.a x1.hs.length x1.c]) (fun w' hx' => by obtain ⟨d0, d1, d2, d3, d4⟩ := box5c ((HQW.out.trans' hx').heap' HFC.out); go_simp; try rfl) ?_
            go_simp
            refine wpZ_q rfl rfl (.agg #[.slice p.a p.n p.c, .bool p.P.rest]) (fun w' hx' => by obtain ⟨d0, d1, -⟩ := box2 (hx'.heap' HBQ.out); go_simp; try rfl) ?_
            go_simp
            refine wpZ_alt rfl rfl ?_ (wpZ_alt rfl rfl ?_ wpZ_stop)
            · skip
              go_simp
              refine (HL1.out _).mono ?_
              rintro en wa1 ⟨rfl, hxa1⟩
              have HY1 := Lib.hid ((HR16.out).trans' hxa1)
              refine ⟨HY1.out, ?_⟩
              clear hxa1
              go_simp
              refine wpZ_alt rfl rfl ?_ (wpZ_alt rfl rfl ?_ wpZ_stop)
              · skip
                go_simp
                refine (HNR.out _ (HWQ.out.trans' HY1.out)).mono ?_
                rintro en wa2 ⟨⟨gx, ⟨ma, mn, mc, mP⟩, ⟨ca, cn, cc, cP⟩⟩, q, e, rfl, h1, h3, hxa2⟩
                have HH1 := Lib.hid h1
                have HY2 := Lib.hid ((HY1.out).trans' hxa2)
                have HH3 := Lib.hid (show RlO wa2 w.heap.size (S + S) ⟨gx, ⟨ma, mn, mc, mP⟩, ⟨ca, cn, cc, cP⟩⟩ from h3.base (HWQ.out.trans' HY1.out).size)
                refine ⟨HY2.out, ?_⟩
                clear h1 h3 hxa2
                go_simp
                iterate 4 ((refine wpZ_q rfl rfl _ (fun w' hx' => by go_simp; try rfl) ?_; go_simp))
                refine wpZ_l rfl rfl ?_
                go_simp
                have hal := Ext.alloc' wa2 (.cells #[.bool false, .slice none 0 0, .bool false, .slice none 0 0, .bool false] 48)
                have hnw := heap_alloc_new wa2 (.cells #[.bool false, .slice none 0 0, .bool false, .slice none 0 0, .bool false] 48)
                generalize wa2.alloc (.cells #[.bool false, .slice none 0 0, .bool false, .slice none 0 0, .bool false] 48) = wa3 at hal hnw ⊢
                have HGB := Lib.hid (show wq.heap.size ≤ wa2.heap.size from (HY2.out).size)
                generalize wa2.heap.size = gb at hnw HGB ⊢
                have HY3 := Lib.hid ((HY2.out).trans' hal)
                have HH4 := Lib.hid ((HH3.out).ext hal)
                have HV3 := Lib.hid hnw
                refine ⟨HY3.out, ?_⟩
                clear hal hnw
                go_simp
                refine wpZ_l rfl rfl (wp_store_row _ _ _ rfl gb #[.bool gx, .slice ma mn mc, .bool mP.rest, .slice ca cn cc, .bool cP.rest] rfl rfl _ _ HV3.out (by kernel_rfl) rfl (by simp [Value.oneCell']) ?_)
                have HZ1 := Lib.hid (rlo_row (cs' := #[.bool gx, .slice ma mn mc, .bool mP.rest, .slice ca cn cc, .bool cP.rest]) (HH4.out) HV3.out)
                have HZ2 := Lib.hid (show (wa3.setRow gb #[.bool gx, .slice ma mn mc, .bool mP.rest, .slice ca cn cc, .bool cP.rest]).heap[gb]? = some (.cells #[.bool gx, .slice ma mn mc, .bool mP.rest, .slice ca cn cc, .bool cP.rest] 48) from setRow_heap _ _ _ _ _ _ HV3.out)
                have HZ3 := Lib.hid (Ext.setRow (cs := #[.bool gx, .slice ma mn mc, .bool mP.rest, .slice ca cn cc, .bool cP.rest]) (HY3.out) HGB.out)
                refine ⟨fun _ => HZ3.out, ?_⟩
                go_simp
                iterate 2 ((refine wpZ_q rfl rfl _ (fun w' hx' => by go_simp; try rfl) ?_; go_simp))
                refine wpZ_nil ?_
                generalize hwz : wa3.setRow gb #[.bool gx, .slice ma mn mc, .bool mP.rest, .slice ca cn cc, .bool cP.rest] = wz at HZ1 HZ2 HZ3 ⊢
                clear hwz
                have HXZ := Lib.hid (HQW.out.trans' HZ3.out)
                have HWZ := Lib.hid (HWC.out.trans' HXZ.out)
                by_cases he0 : e ≠ 0
                · obtain ⟨q1, q2⟩ := neI (x := (e : Int)) (y := 0) (by omega)
                  have HE1 := Lib.hid (HXZ.out.heap' HJ4.out)
                  have HE2 := Lib.hid (HXZ.out.heap' HJ5.out)
                  gi_wp2_with (first
                    | ((with_reducible refine atStoreIn 4 ?_); refine wpListIn_of_wp rfl (fun c h => by cases h) (owp_st1 (o := ⟨none, _, _, _, _, _⟩) _ _ _ rfl b 0 (.slice none 0 0) rfl rfl rfl (box_there HE1.out (by simp)) (by kernel_rfl) rfl ?_); have HD1 := Lib.hid (box_set (i := 0) HE1.out (.slice none 0 0)); have HD2 := Lib.hid (heap_keep HE2.out (grown_setCell' wz b 0 (.slice none 0 0)) (by omega)))
                    | ((with_reducible refine atStoreIn 5 ?_); refine wpListIn_of_wp rfl (fun c h => by cases h) (owp_st1 (o := ⟨none, _, _, _, _, _⟩) _ _ _ rfl (b + 1) 0 (.int .i64 72) rfl rfl rfl (box_there HD2.out (by simp)) (by kernel_rfl) rfl ?_))
                    | fail)
                  exact cpx_leave (HXC.out.trans' HXZ.out) HWZ.out HBB.out HD1.out HD2.out (by decide)
                · replace he0 : e = 0 := by omega
                  subst he0
                  obtain ⟨-, -, o, ho, hq, hog⟩ := HH1.out rfl
                  subst hq
                  have HNA := Lib.hid (show BackOk x1.E ((y1.hs.take (j + 1)).map Pt.P) (N ++ (o.map Prod.snd).toList) by rw [HTK.out]; exact back_step HBK.out HOX.out.line HPO2.out ho)
                  have HGE := Lib.hid fun (q : Pt) (hq : q ∈ G) => (show OkP q.P ∧ (q ∈ x1.hs ∨ PtO wz w.heap.size (S + S) q) from ⟨(HGA.out q hq).1, (HGA.out q hq).2.imp id (fun h => h.ext (HQ5.out.trans' HZ3.out))⟩)
                  have HGO := Lib.hid (own_ext HOW.out (HQ5.out.trans' HZ3.out))
                  cases o with
                  | none =>
                    gi_wp2
                    go_roundw
                    case rel => exact ⟨j + 1, G, a3, c3, N, rfl, by go_num, hjl, by omega, HGO.out, HGE.out, HGM.out, by have h := HNA.out; simpa using h, HXZ.out⟩
                    case measure => simp [intOf]; omega
                  | some mk =>
                    obtain ⟨m2, c2⟩ := mk
                    obtain ⟨e1, e2⟩ := hog _ _ rfl
                    have HC2 := Lib.hid (show mP = c2 ∧ OkP c2 from ⟨e2, ho.2.2⟩)
                    have hr68 := (box5 HZ2.out).2.1
                    have HAL2 := Lib.hid (Ext.alloc' wz (.cells #[.slice ma mn mc, .bool mP.rest] 39))
                    have HOB := Lib.hid (own_ext HGO.out HAL2.out)
                    have HXA := Lib.hid (HXZ.out.trans' HAL2.out)
                    clear ho hog e1 e2
                    gi_wp2_with (first
                      | ((with_reducible refine atSlotIn 68 ?_); refine wpListIn_of_wp rfl (fun c h => by cases h) (wp_load_mid (op := ⟨some 68, _, _, _, _, _⟩) 39 _ rfl (gb) 1 rfl [.slice ma mn mc, .bool mP.rest] _ hr68 Tryz.underlying39 rfl (by kernel_rfl) ?_); clear hr68)
                      | ((with_reducible refine atSlotIn 70 ?_); refine wpListIn_of_wp rfl (fun c h => by cases h) (owp_app (o := ⟨some 70, _, _, _, _, _⟩) _ _ rfl Tryz.elPat rfl HOB.out rfl (Row.new wz #[.slice ma mn mc, .bool mP.rest] 39 1 2 rfl (by decide)) (pt_one ⟨ma, mn, mc, mP⟩) (by omega) (by unfold maxLen; omega) HXA.out.size ?_); intro a6 c6 w6 ho6 hg6; have HO6 := Lib.hid ho6; have HX6 := Lib.hid (show Ext wc w6 from below_app HXA.out HOB.out hg6 HXA.out.size); have HK6 := Lib.hid (fun (o : Pt) (h : PtO wz w.heap.size (S + S) o) => rgo_keep (h.ext HAL2.out) (own_base HOB.out HWC.out.size) (by decide) hg6); clear ho6 hg6)
                      | fail)
                    go_roundw
                    case rel =>
                      refine ⟨j + 1, G ++ [⟨ma, mn, mc, mP⟩], a6, c6, N ++ [c2], by rw [List.length_append]; rfl, by go_num, hjl, by rw [List.length_append]; show G.length + 1 ≤ _; omega, ?_, fun q hq => ?_, ?_, ?_, HX6.out⟩
                      · rw [List.length_append, List.flatMap_append]; exact HO6.out
                      · rcases List.mem_append.1 hq with hq | hq
                        · exact ⟨(HGE.out q hq).1, (HGE.out q hq).2.imp id (fun h => HK6.out q h)⟩
                        · obtain rfl : q = ⟨ma, mn, mc, mP⟩ := by simpa using hq
                          exact ⟨by show OkP mP; rw [HC2.out.1]; exact HC2.out.2, .inr (HK6.out _ HZ1.out.l)⟩
                      · rw [List.map_append, HGM.out, List.append_assoc]
                        show _ ++ (N ++ [mP]) = _
                        rw [HC2.out.1]
                      · have h := HNA.out
                        simpa using h
                    case measure => simp [intOf]; omega
              · skip
                go_simp
                have hal := Ext.alloc' wa1 (.cells #[.bool false, .slice none 0 0, .bool false, .slice none 0 0, .bool false] 48)
                have hnw := heap_alloc_new wa1 (.cells #[.bool false, .slice none 0 0, .bool false, .slice none 0 0, .bool false] 48)
                generalize wa1.alloc (.cells #[.bool false, .slice none 0 0, .bool false, .slice none 0 0, .bool false] 48) = wa2 at hal hnw ⊢
                have HGB := Lib.hid (show wq.heap.size ≤ wa1.heap.size from (HY1.out).size)
                generalize wa1.heap.size = gb at hnw HGB ⊢
                have HY2 := Lib.hid ((HY1.out).trans' hal)
                have HV2 := Lib.hid hnw
                refine ⟨HY2.out, ?_⟩
                clear hal hnw
                refine wpZ_l rfl rfl ?_
                go_simp
                refine (HNR.out _ (HWQ.out.trans' HY2.out)).mono ?_
                rintro en wa3 ⟨⟨gx, ⟨ma, mn, mc, mP⟩, ⟨ca, cn, cc, cP⟩⟩, q, e, rfl, h1, h3, hxa3⟩
                have HH1 := Lib.hid h1
                have HY3 := Lib.hid ((HY2.out).trans' hxa3)
                have HH3 := Lib.hid (show RlO wa3 w.heap.size (S + S) ⟨gx, ⟨ma, mn, mc, mP⟩, ⟨ca, cn, cc, cP⟩⟩ from h3.base (HWQ.out.trans' HY2.out).size)
                have HV3 := Lib.hid (hxa3.heap' HV2.out)
                refine ⟨HY3.out, ?_⟩
                clear h1 h3 hxa3
                go_simp
                iterate 4 ((refine wpZ_q rfl rfl _ (fun w' hx' => by go_simp; try rfl) ?_; go_simp))
                refine wpZ_l rfl rfl (wp_store_row _ _ _ rfl gb #[.bool gx, .slice ma mn mc, .bool mP.rest, .slice ca cn cc, .bool cP.rest] rfl rfl _ _ HV3.out (by kernel_rfl) rfl (by simp [Value.oneCell']) ?_)
                have HZ1 := Lib.hid (rlo_row (cs' := #[.bool gx, .slice ma mn mc, .bool mP.rest, .slice ca cn cc, .bool cP.rest]) (HH3.out) HV3.out)
                have HZ2 := Lib.hid (show (wa3.setRow gb #[.bool gx, .slice ma mn mc, .bool mP.rest, .slice ca cn cc, .bool cP.rest]).heap[gb]? = some (.cells #[.bool gx, .slice ma mn mc, .bool mP.rest, .slice ca cn cc, .bool cP.rest] 48) from setRow_heap _ _ _ _ _ _ HV3.out)
                have HZ3 := Lib.hid (Ext.setRow (cs := #[.bool gx, .slice ma mn mc, .bool mP.rest, .slice ca cn cc, .bool cP.rest]) (HY3.out) HGB.out)
                refine ⟨fun _ => HZ3.out, ?_⟩
                go_simp
                iterate 2 ((refine wpZ_q rfl rfl _ (fun w' hx' => by go_simp; try rfl) ?_; go_simp))
                refine wpZ_nil ?_
                generalize hwz : wa3.setRow gb #[.bool gx, .slice ma mn mc, .bool mP.rest, .slice ca cn cc, .bool cP.rest] = wz at HZ1 HZ2 HZ3 ⊢
                clear hwz
                have HXZ := Lib.hid (HQW.out.trans' HZ3.out)
                have HWZ := Lib.hid (HWC.out.trans' HXZ.out)
                by_cases he0 : e ≠ 0
                · obtain ⟨q1, q2⟩ := neI (x := (e : Int)) (y := 0) (by omega)
                  have HE1 := Lib.hid (HXZ.out.heap' HJ4.out)
                  have HE2 := Lib.hid (HXZ.out.heap' HJ5.out)
                  gi_wp2_with (first
                    | ((with_reducible refine atStoreIn 4 ?_); refine wpListIn_of_wp rfl (fun c h => by cases h) (owp_st1 (o := ⟨none, _, _, _, _, _⟩) _ _ _ rfl b 0 (.slice none 0 0) rfl rfl rfl (box_there HE1.out (by simp)) (by kernel_rfl) rfl ?_); have HD1 := Lib.hid (box_set (i := 0) HE1.out (.slice none 0 0)); have HD2 := Lib.hid (heap_keep HE2.out (grown_setCell' wz b 0 (.slice none 0 0)) (by omega)))
                    | ((with_reducible refine atStoreIn 5 ?_); refine wpListIn_of_wp rfl (fun c h => by cases h) (owp_st1 (o := ⟨none, _, _, _, _, _⟩) _ _ _ rfl (b + 1) 0 (.int .i64 72) rfl rfl rfl (box_there HD2.out (by simp)) (by kernel_rfl) rfl ?_))
                    | fail)
                  exact cpx_leave (HXC.out.trans' HXZ.out) HWZ.out HBB.out HD1.out HD2.out (by decide)
                · replace he0 : e = 0 := by omega
                  subst he0
                  obtain ⟨-, -, o, ho, hq, hog⟩ := HH1.out rfl
                  subst hq
                  have HNA := Lib.hid (show BackOk x1.E ((y1.hs.take (j + 1)).map Pt.P) (N ++ (o.map Prod.snd).toList) by rw [HTK.out]; exact back_step HBK.out HOX.out.line HPO2.out ho)
                  have HGE := Lib.hid fun (q : Pt) (hq : q ∈ G) => (show OkP q.P ∧ (q ∈ x1.hs ∨ PtO wz w.heap.size (S + S) q) from ⟨(HGA.out q hq).1, (HGA.out q hq).2.imp id (fun h => h.ext (HQ5.out.trans' HZ3.out))⟩)
                  have HGO := Lib.hid (own_ext HOW.out (HQ5.out.trans' HZ3.out))
                  cases o with
                  | none =>
                    gi_wp2
                    go_roundw
                    case rel => exact ⟨j + 1, G, a3, c3, N, rfl, by go_num, hjl, by omega, HGO.out, HGE.out, HGM.out, by have h := HNA.out; simpa using h, HXZ.out⟩
                    case measure => simp [intOf]; omega
                  | some mk =>
                    obtain ⟨m2, c2⟩ := mk
                    obtain ⟨e1, e2⟩ := hog _ _ rfl
                    have HC2 := Lib.hid (show mP = c2 ∧ OkP c2 from ⟨e2, ho.2.2⟩)
                    have hr68 := (box5 HZ2.out).2.1
                    have HAL2 := Lib.hid (Ext.alloc' wz (.cells #[.slice ma mn mc, .bool mP.rest] 39))
                    have HOB := Lib.hid (own_ext HGO.out HAL2.out)
                    have HXA := Lib.hid (HXZ.out.trans' HAL2.out)
                    clear ho hog e1 e2
                    gi_wp2_with (first
                      | ((with_reducible refine atSlotIn 68 ?_); refine wpListIn_of_wp rfl (fun c h => by cases h) (wp_load_mid (op := ⟨some 68, _, _, _, _, _⟩) 39 _ rfl (gb) 1 rfl [.slice ma mn mc, .bool mP.rest] _ hr68 Tryz.underlying39 rfl (by kernel_rfl) ?_); clear hr68)
                      | ((with_reducible refine atSlotIn 70 ?_); refine wpListIn_of_wp rfl (fun c h => by cases h) (owp_app (o := ⟨some 70, _, _, _, _, _⟩) _ _ rfl Tryz.elPat rfl HOB.out rfl (Row.new wz #[.slice ma mn mc, .bool mP.rest] 39 1 2 rfl (by decide)) (pt_one ⟨ma, mn, mc, mP⟩) (by omega) (by unfold maxLen; omega) HXA.out.size ?_); intro a6 c6 w6 ho6 hg6; have HO6 := Lib.hid ho6; have HX6 := Lib.hid (show Ext wc w6 from below_app HXA.out HOB.out hg6 HXA.out.size); have HK6 := Lib.hid (fun (o : Pt) (h : PtO wz w.heap.size (S + S) o) => rgo_keep (h.ext HAL2.out) (own_base HOB.out HWC.out.size) (by decide) hg6); clear ho6 hg6)
                      | fail)
                    go_roundw
                    case rel =>
                      refine ⟨j + 1, G ++ [⟨ma, mn, mc, mP⟩], a6, c6, N ++ [c2], by rw [List.length_append]; rfl, by go_num, hjl, by rw [List.length_append]; show G.length + 1 ≤ _; omega, ?_, fun q hq => ?_, ?_, ?_, HX6.out⟩
                      · rw [List.length_append, List.flatMap_append]; exact HO6.out
                      · rcases List.mem_append.1 hq with hq | hq
                        · exact ⟨(HGE.out q hq).1, (HGE.out q hq).2.imp id (fun h => HK6.out q h)⟩
                        · obtain rfl : q = ⟨ma, mn, mc, mP⟩ := by simpa using hq
                          exact ⟨by show OkP mP; rw [HC2.out.1]; exact HC2.out.2, .inr (HK6.out _ HZ1.out.l)⟩
                      · rw [List.map_append, HGM.out, List.append_assoc]
                        show _ ++ (N ++ [mP]) = _
                        rw [HC2.out.1]
                      · have h := HNA.out
                        simpa using h
                    case measure => simp [intOf]; omega
            · skip
              go_simp
              have hal := (Ext.alloc' wq (.cells #[.bool false, .slice none 0 0, .bool false, .slice none 0 0, .bool false] 48)).trans' (Ext.drew' _)
              have hnw := (Ext.drew' (wq.alloc (.cells #[.bool false, .slice none 0 0, .bool false, .slice none 0 0, .bool false] 48))).heap' (heap_alloc_new wq (.cells #[.bool false, .slice none 0 0, .bool false, .slice none 0 0, .bool false] 48))
              generalize (wq.alloc (.cells #[.bool false, .slice none 0 0, .bool false, .slice none 0 0, .bool false] 48)).drew = wa1 at hal hnw ⊢
              have HGB := Lib.hid (Nat.le_refl wq.heap.size)
              have HY1 := Lib.hid hal
              have HV1 := Lib.hid hnw
              refine ⟨HY1.out, ?_⟩
              clear hal hnw
              refine wpZ_l rfl rfl ?_
              go_simp
              refine (HL1.out _).mono ?_
              rintro en wa2 ⟨rfl, hxa2⟩
              have HY2 := Lib.hid ((HY1.out).trans' hxa2)
              have HV2 := Lib.hid (hxa2.heap' HV1.out)
              refine ⟨HY2.out, ?_⟩
              clear hxa2
              go_simp
              refine wpZ_l rfl rfl ?_
              go_simp
              refine (HNR.out _ (HWQ.out.trans' HY2.out)).mono ?_
              rintro en wa3 ⟨⟨gx, ⟨ma, mn, mc, mP⟩, ⟨ca, cn, cc, cP⟩⟩, q, e, rfl, h1, h3, hxa3⟩
              have HH1 := Lib.hid h1
              have HY3 := Lib.hid ((HY2.out).trans' hxa3)
              have HH3 := Lib.hid (show RlO wa3 w.heap.size (S + S) ⟨gx, ⟨ma, mn, mc, mP⟩, ⟨ca, cn, cc, cP⟩⟩ from h3.base (HWQ.out.trans' HY2.out).size)
              have HV3 := Lib.hid (hxa3.heap' HV2.out)
              refine ⟨HY3.out, ?_⟩
              clear h1 h3 hxa3
              go_simp
              iterate 4 ((refine wpZ_q rfl rfl _ (fun w' hx' => by go_simp; try rfl) ?_; go_simp))
              refine wpZ_l rfl rfl (wp_store_row _ _ _ rfl wq.heap.size #[.bool gx, .slice ma mn mc, .bool mP.rest, .slice ca cn cc, .bool cP.rest] rfl rfl _ _ HV3.out (by kernel_rfl) rfl (by simp [Value.oneCell']) ?_)
              have HZ1 := Lib.hid (rlo_row (cs' := #[.bool gx, .slice ma mn mc, .bool mP.rest, .slice ca cn cc, .bool cP.rest]) (HH3.out) HV3.out)
              have HZ2 := Lib.hid (show (wa3.setRow wq.heap.size #[.bool gx, .slice ma mn mc, .bool mP.rest, .slice ca cn cc, .bool cP.rest]).heap[wq.heap.size]? = some (.cells #[.bool gx, .slice ma mn mc, .bool mP.rest, .slice ca cn cc, .bool cP.rest] 48) from setRow_heap _ _ _ _ _ _ HV3.out)
              have HZ3 := Lib.hid (Ext.setRow (cs := #[.bool gx, .slice ma mn mc, .bool mP.rest, .slice ca cn cc, .bool cP.rest]) (HY3.out) HGB.out)
              refine ⟨fun _ => HZ3.out, ?_⟩
              go_simp
              iterate 2 ((refine wpZ_q rfl rfl _ (fun w' hx' => by go_simp; try rfl) ?_; go_simp))
              refine wpZ_nil ?_
              generalize hwz : wa3.setRow wq.heap.size #[.bool gx, .slice ma mn mc, .bool mP.rest, .slice ca cn cc, .bool cP.rest] = wz at HZ1 HZ2 HZ3 ⊢
              clear hwz
              have HXZ := Lib.hid (HQW.out.trans' HZ3.out)
              have HWZ := Lib.hid (HWC.out.trans' HXZ.out)
              by_cases he0 : e ≠ 0
              · obtain ⟨q1, q2⟩ := neI (x := (e : Int)) (y := 0) (by omega)
                have HE1 := Lib.hid (HXZ.out.heap' HJ4.out)
                have HE2 := Lib.hid (HXZ.out.heap' HJ5.out)
                gi_wp2_with (first
                  | ((with_reducible refine atStoreIn 4 ?_); refine wpListIn_of_wp rfl (fun c h => by cases h) (owp_st1 (o := ⟨none, _, _, _, _, _⟩) _ _ _ rfl b 0 (.slice none 0 0) rfl rfl rfl (box_there HE1.out (by simp)) (by kernel_rfl) rfl ?_); have HD1 := Lib.hid (box_set (i := 0) HE1.out (.slice none 0 0)); have HD2 := Lib.hid (heap_keep HE2.out (grown_setCell' wz b 0 (.slice none 0 0)) (by omega)))
                  | ((with_reducible refine atStoreIn 5 ?_); refine wpListIn_of_wp rfl (fun c h => by cases h) (owp_st1 (o := ⟨none, _, _, _, _, _⟩) _ _ _ rfl (b + 1) 0 (.int .i64 72) rfl rfl rfl (box_there HD2.out (by simp)) (by kernel_rfl) rfl ?_))
                  | fail)
                exact cpx_leave (HXC.out.trans' HXZ.out) HWZ.out HBB.out HD1.out HD2.out (by decide)
              · replace he0 : e = 0 := by omega
                subst he0
                obtain ⟨-, -, o, ho, hq, hog⟩ := HH1.out rfl
                subst hq
                have HNA := Lib.hid (show BackOk x1.E ((y1.hs.take (j + 1)).map Pt.P) (N ++ (o.map Prod.snd).toList) by rw [HTK.out]; exact back_step HBK.out HOX.out.line HPO2.out ho)
                have HGE := Lib.hid fun (q : Pt) (hq : q ∈ G) => (show OkP q.P ∧ (q ∈ x1.hs ∨ PtO wz w.heap.size (S + S) q) from ⟨(HGA.out q hq).1, (HGA.out q hq).2.imp id (fun h => h.ext (HQ5.out.trans' HZ3.out))⟩)
                have HGO := Lib.hid (own_ext HOW.out (HQ5.out.trans' HZ3.out))
                cases o with
                | none =>
                  gi_wp2
                  go_roundw
                  case rel => exact ⟨j + 1, G, a3, c3, N, rfl, by go_num, hjl, by omega, HGO.out, HGE.out, HGM.out, by have h := HNA.out; simpa using h, HXZ.out⟩
                  case measure => simp [intOf]; omega
                | some mk =>
                  obtain ⟨m2, c2⟩ := mk
                  obtain ⟨e1, e2⟩ := hog _ _ rfl
                  have HC2 := Lib.hid (show mP = c2 ∧ OkP c2 from ⟨e2, ho.2.2⟩)
                  have hr68 := (box5 HZ2.out).2.1
                  have HAL2 := Lib.hid (Ext.alloc' wz (.cells #[.slice ma mn mc, .bool mP.rest] 39))
                  have HOB := Lib.hid (own_ext HGO.out HAL2.out)
                  have HXA := Lib.hid (HXZ.out.trans' HAL2.out)
                  clear ho hog e1 e2
                  gi_wp2_with (first
                    | ((with_reducible refine atSlotIn 68 ?_); refine wpListIn_of_wp rfl (fun c h => by cases h) (wp_load_mid (op := ⟨some 68, _, _, _, _, _⟩) 39 _ rfl (wq.heap.size) 1 rfl [.slice ma mn mc, .bool mP.rest] _ hr68 Tryz.underlying39 rfl (by kernel_rfl) ?_); clear hr68)
                    | ((with_reducible refine atSlotIn 70 ?_); refine wpListIn_of_wp rfl (fun c h => by cases h) (owp_app (o := ⟨some 70, _, _, _, _, _⟩) _ _ rfl Tryz.elPat rfl HOB.out rfl (Row.new wz #[.slice ma mn mc, .bool mP.rest] 39 1 2 rfl (by decide)) (pt_one ⟨ma, mn, mc, mP⟩) (by omega) (by unfold maxLen; omega) HXA.out.size ?_); intro a6 c6 w6 ho6 hg6; have HO6 := Lib.hid ho6; have HX6 := Lib.hid (show Ext wc w6 from below_app HXA.out HOB.out hg6 HXA.out.size); have HK6 := Lib.hid (fun (o : Pt) (h : PtO wz w.heap.size (S + S) o) => rgo_keep (h.ext HAL2.out) (own_base HOB.out HWC.out.size) (by decide) hg6); clear ho6 hg6)
                    | fail)
                  go_roundw
                  case rel =>
                    refine ⟨j + 1, G ++ [⟨ma, mn, mc, mP⟩], a6, c6, N ++ [c2], by rw [List.length_append]; rfl, by go_num, hjl, by rw [List.length_append]; show G.length + 1 ≤ _; omega, ?_, fun q hq => ?_, ?_, ?_, HX6.out⟩
                    · rw [List.length_append, List.flatMap_append]; exact HO6.out
                    · rcases List.mem_append.1 hq with hq | hq
                      · exact ⟨(HGE.out q hq).1, (HGE.out q hq).2.imp id (fun h => HK6.out q h)⟩
                      · obtain rfl : q = ⟨ma, mn, mc, mP⟩ := by simpa using hq
                        exact ⟨by show OkP mP; rw [HC2.out.1]; exact HC2.out.2, .inr (HK6.out _ HZ1.out.l)⟩
                    · rw [List.map_append, HGM.out, List.append_assoc]
                      show _ ++ (N ++ [mP]) = _
                      rw [HC2.out.1]
                    · have h := HNA.out
                      simpa using h
                  case measure => simp [intOf]; omega
          · have hjY : j = y1.hs.length := by omega
            have HBF := Lib.hid (show BackOk x1.E (y1.hs.map Pt.P) N by have h := HBK.out; rwa [hjY, List.take_length] at h)
            have hr72 := (box5 (HXP.out.heap' H3.out)).2.2.2
            have HWX := Lib.hid (HXC.out.trans' HXP.out)
            obtain ⟨⟨out, full, hco, hcm⟩, -, -, -⟩ := HI.out
            have HCM := Lib.hid hcm
            have HCO := Lib.hid (hco.ext HWX.out)
            obtain ⟨mm, hm1, hm2, hm3, hm4, hm5⟩ := HO.out
            have HPU := Lib.hid (put_any w g out full ⟨kx, ⟨pa, pn, pc, pP⟩, ⟨ra, rn, rc, rP⟩⟩ a3 c3 G (S + S) wp HWP.out HCO.out (H2.out.ext HXP.out).i
              ⟨Row.of_own HOW.out, fun q hq => by
                rcases (HGA.out q hq).2 with h | h
                · exact ((HAX.out wp HWP.out).hs.each q h).mono (Nat.le_add_right ..)
                · exact h.i⟩ (by show OkP pP; rw [HKL.out.1]; exact hm4) (by show OkP rP; rw [HKL.out.2]; exact hm5) (fun q hq => (HGA.out q hq).1) (by omega) (by omega))
            clear hco hcm hm1 hm2 hm3 hm4 hm5
            gi_upto_region 23 with (first
              | ((with_reducible refine atSlotIn 72 ?_); refine wpListIn_of_wp rfl (fun c h => by cases h) (wp_load_mid (op := ⟨some 72, _, _, _, _, _⟩) 48 _ rfl gk 0 rfl [.bool kx, .slice pa pn pc, .bool pP.rest, .slice ra rn rc, .bool rP.rest] _ hr72 Tryz.underlying48 rfl (by kernel_rfl) ?_); clear hr72)
              | (refine ⟨trivial, ?_⟩; gi_at_call 23; refine (callsRF HPU.out).mono ?_; rintro en w7 ⟨e, out', full', rfl, h7, hx7, hsz, hkp, h8⟩; have H7 := Lib.hid h7; have H8 := Lib.hid h8; have HX7 := Lib.hid hx7; have HSZ := Lib.hid hsz; have HKP := Lib.hid hkp; clear h7 h8 hx7 hsz hkp)
              | fail)
            have HLV := Lib.hid (kep_leave (B := w5.heap.size) HWW.out HWX.out HCO.out HKP.out HSZ.out HX7.out H7.out)
            have HM4 := Lib.hid (kep_box HCO.out HKP.out (HXP.out.heap' HJ4.out) (by have := HGL.out; omega) (by decide))
            have HM5 := Lib.hid (kep_box HCO.out HKP.out (HXP.out.heap' HJ5.out) (by have := HGL.out; omega) (by decide))
            by_cases he0 : e ≠ 0
            · obtain ⟨q1, q2⟩ := neI (x := (e : Int)) (y := 0) (by omega)
              gi_wp2_with (first
                | ((with_reducible refine atStoreIn 4 ?_); refine wpListIn_of_wp rfl (fun c h => by cases h) (owp_st1 (o := ⟨none, _, _, _, _, _⟩) _ _ _ rfl b 0 (.slice none 0 0) rfl rfl rfl (box_there HM4.out (by simp)) (by kernel_rfl) rfl ?_); have HD1 := Lib.hid (box_set (i := 0) HM4.out (.slice none 0 0)); have HD2 := Lib.hid (heap_keep HM5.out (grown_setCell' w7 b 0 (.slice none 0 0)) (by omega)))
                | ((with_reducible refine atStoreIn 5 ?_); refine wpListIn_of_wp rfl (fun c h => by cases h) (owp_st1 (o := ⟨none, _, _, _, _, _⟩) _ _ _ rfl (b + 1) 0 (.int .i64 (e : Nat)) rfl rfl rfl (box_there HD2.out (by simp)) (by kernel_rfl) rfl ?_))
                | fail)
              exact cpx_leave' HLV.out.1 HX7.out HBB.out HD1.out HD2.out he0
            replace he0 : e = 0 := by omega
            subst he0
            obtain ⟨o, hpo, hor⟩ := H8.out rfl
            gi_wp2
            refine ⟨HLV.out.1, HLV.out.2, ⟨out', full', H7.out, fun hf => ?_⟩, HX7.out, by rw [← HBB.out]; exact HM4.out, by rw [← HBB.out]; exact HM5.out⟩
            rcases hor with ⟨h1, h2⟩ | h1
            · have h3 := (HCM.out (by rw [← h1]; exact hf)).step HOX.out HOY.out HO.out HBF.out (o := o.map En.E) (by
                have h4 := hpo
                rw [HGM.out] at h4
                rw [← HKL.out.1, ← HKL.out.2]
                exact h4)
              have h6 : (o.map En.E).toList = o.toList.map En.E := by cases o <;> rfl
              rw [h6] at h3
              rw [HPS.out, h2, List.map_append]
              exact h3
            · rw [h1] at hf; cases hf
  case done =>
    rintro D xs W hD rfl ⟨⟨out, full, hco, hcm⟩, hxw, h4, h5⟩ hK
    have HCO := Lib.hid hco
    have HCM := Lib.hid hcm
    have HXW := Lib.hid hxw
    have HI4 := Lib.hid (show W.heap[b]? = some (.cells #[.slice none 0 0] 24) by rw [HBB.out]; exact h4)
    have HI5 := Lib.hid (show W.heap[b + 1]? = some (.cells #[.int .i64 0] 25) by rw [HBB.out]; exact h5)
    have HKD := Lib.hid hK
    clear hco hcm hxw h4 h5 hK
    gi_wp2_with (first
      | (refine ⟨trivial, ?_⟩; gi_at_call 24; refine (callsIn_wide.2 (result_any _ _ _ _ _ _ HCO.out)).mono ?_; rintro en w7 ⟨rfl, a7, n7, c7, e, rfl, h7⟩; have H7 := Lib.hid h7; clear h7)
      | ((with_reducible refine atStoreW 4 ?_); refine wpListIn_of_wpW rfl (owp_st1 (o := ⟨none, _, _, _, _, _⟩) _ _ _ rfl b 0 (.slice a7 n7 c7) rfl rfl rfl (box_there HI4.out (by simp)) (by kernel_rfl) rfl ?_); have HD1 := Lib.hid (box_set (i := 0) HI4.out (.slice a7 n7 c7)); have HD2 := Lib.hid (heap_keep HI5.out (grown_setCell' w7 b 0 (.slice a7 n7 c7)) (by omega)))
      | ((with_reducible refine atStoreW 5 ?_); refine wpListIn_of_wpW rfl (owp_st1 (o := ⟨none, _, _, _, _, _⟩) _ _ _ rfl (b + 1) 0 (.int .i64 (e : Nat)) rfl rfl rfl (box_there HD2.out (by simp)) (by kernel_rfl) rfl ?_))
      | fail)
    have hg1 := grown_setCell' w7 b 0 (.slice a7 n7 c7)
    have hg2 := grown_setCell' (w7.setCell ⟨b, 0, none⟩ (.slice a7 n7 c7)) (b + 1) 0 (.int .i64 (e : Nat))
    have hE1 := heap_keep HD1.out hg2 (by omega)
    have hE2 := box_set (i := 0) HD2.out (.int .i64 (e : Nat))
    have hKD := heap_keep (heap_keep HKD.out hg1 (by omega)) hg2 (by omega)
    have hX := Ext.rd (Ext.rd HXW.out hg1 (by rw [HBB.out]; exact Nat.le_refl _)) hg2 (by rw [HBB.out]; omega)
    have hEO := fun k (hk : k ∈ out) => ((HCO.out.each k hk).grown hg1 HI4.out (by decide) (by decide)).grown hg2 HD2.out (by decide) (by decide)
    have hOO := fun (h : w7.ownsRow w.heap.size 60 5 (.slice a7 n7 c7) n7 (out.flatMap En.cells)) => (show ((w7.setCell ⟨b, 0, none⟩ (.slice a7 n7 c7)).setCell ⟨b + 1, 0, none⟩ (.int .i64 (e : Nat))).ownsRow w.heap.size 60 5 (.slice a7 n7 c7) n7 (out.flatMap En.cells) from
      own_other (own_other h hg1 (fun e => own_apart h HI4.out (by decide) e.symm)) hg2 (fun e => own_apart (own_other h hg1 (fun e => own_apart h HI4.out (by decide) e.symm)) HD2.out (by decide) e.symm))
    generalize (w7.setCell ⟨b, 0, none⟩ (.slice a7 n7 c7)).setCell ⟨b + 1, 0, none⟩ (.int .i64 (e : Nat)) = w8 at hE1 hE2 hKD hX hEO hOO ⊢
    have hg := grownBy_putObj' w8 D (.deferred none)
    have hr : ∀ r, some D = some r → w5.heap.size ≤ r ∧ ∃ o : Obj, w8.heap[r]? = some o ∧ o.isCells = false := fun r er => by cases er; exact ⟨hD, _, hKD, rfl⟩
    refine ⟨by simp, .inl ⟨_, _, rfl, run_takeDeferred hKD, ?_⟩⟩
    refine ⟨_, results_cc rfl _ b (b + 1) _ _ rfl rfl Tryz.isAgg24 Tryz.isAgg25 (cell_of_row _ b 0 _ _ _ (cells_keep hE1 rfl hg hr)) (cell_of_row _ (b + 1) 0 _ _ _ (cells_keep hE2 rfl hg hr)), ?_⟩
    rw [HPO.out]
    refine ⟨a7, n7, c7, e, rfl, fun he => ⟨HOK.out.1, HOK.out.2, out, ?_⟩, ext_keep hX hsz hg hr⟩
    obtain ⟨h1, h2, h3⟩ := H7.out he
    refine ⟨h2, ?_, ⟨?_, fun k hk => (hEO k hk).keep hg hr⟩⟩
    · have h4 := HCM.out h1
      unfold prsE at h4
      rwa [prs_ents] at h4
    · have h4 := hOO h3
      rw [h2] at h4
      exact own_keep h4 hg hr
  case stop =>
    rintro D c pre W hD - ⟨rfl, hxw, h4, e, he, h5⟩ hK
    have HI4 := Lib.hid (show W.heap[b]? = some (.cells #[.slice none 0 0] 24) by rw [HBB.out]; exact h4)
    have HI5 := Lib.hid (show W.heap[b + 1]? = some (.cells #[.int .i64 (e : Nat)] 25) by rw [HBB.out]; exact h5)
    gi_wp2
    have hg := grownBy_putObj' W D (.deferred none)
    have hr : ∀ r, some D = some r → w5.heap.size ≤ r ∧ ∃ o : Obj, W.heap[r]? = some o ∧ o.isCells = false := fun r er => by cases er; exact ⟨hD, _, hK, rfl⟩
    refine ⟨by simp, .inl ⟨_, _, rfl, run_takeDeferred hK, ?_⟩⟩
    refine ⟨_, results_cc rfl _ b (b + 1) _ _ rfl rfl Tryz.isAgg24 Tryz.isAgg25 (cell_of_row _ b 0 _ _ _ (cells_keep HI4.out rfl hg hr)) (cell_of_row _ (b + 1) 0 _ _ _ (cells_keep HI5.out rfl hg hr)), ?_⟩
    rw [HPO.out]
    exact ⟨none, 0, 0, e, rfl, fun h => absurd h he, ext_keep hxw hsz hg hr⟩
end Go.Proofs.YtejljmikammcdaaGreatDoor
